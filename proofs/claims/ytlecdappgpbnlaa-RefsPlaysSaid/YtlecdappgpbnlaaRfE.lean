/-
  Package refs: Used (the blocks that are not free, rising), Same, Clone. No condition.
-/
import Derived.Test.YtlecdappgpbnlaaRfD
import Derived.Test.YtlecdappgpbnlaaShelf
import Derived.Shelf.AbstractIn
import Derived.OwnWalkIn
import Derived.TacticsInMore
import Derived.RegionIn
import Derived.LoopNIn
import Derived.LoopIn
import Derived.RecoverIn
namespace Go.Proofs.Ytlecdappgpbnlaa
open Go.RowKit Go.Maps Go.Sort Go.Shelf

theorem sortsA (m : Nat) : AnyZI.SortsIn Try.prog Try.sortedA_ren Fence.wide m :=
  ⟨fun blk off cap ss W hH hblk hsz => callsIn_wide.2 (AnyM.slices_Sort_int Try.sortA blk off cap ss W hH hblk hsz),
   fun p cap W => callsIn_wide.2 (AnyM.slices_Sort_int_none Try.sortA p cap W)⟩

set_option maxHeartbeats 1000000 in
theorem used_any {H : Type} (r b nn : Nat) (D0 : DataW H) (R : Value → Option (DataW H × List MemPlace)) (w : World) (c1 : w.cell? ⟨r, 1, none⟩ = some (.map (some b))) (hown : w.ownsMap Try.prog 3 R b nn D0) (hmax : Maps.size D0 ≤ maxLen) (hbytes : Maps.size D0 * 8 ≤ 140737488355328) :
    Calls Try.prog 15 #[.pointer (some ⟨r, 0, none⟩)] w fun e w' => ∃ (v : Value) (ss : List Int), e = .returned v ∧ ss.Perm (intKeys D0) ∧
      w'.ownsRow w.heap.size 3 1 v ss.length ((ss.mergeSort (fun x y => decide (x ≤ y))).map encZ) ∧ (v = .slice none 0 0 ↔ ss = []) ∧ Below w.heap.size w w' := by
  refine (callsIn_wide (n := 6)).1 ?_
  have hbl := hown.lt
  have hseq : SeqGives Fence.wide 2 Try.prog 42 #[.pointer (some ⟨w.heap.size, 0, none⟩)] encZ (fun ss => ss.Perm (intKeys D0)) (Maps.size D0) (w.alloc (.cells #[.map (some b)] 51)) :=
    AnyZI.keys_gives (ρ := Try.keysA_ren) { Try.keysA with } Fence.wide _ trivial rfl (by omega) w.heap.size b nn D0 _ (by simp) (by simp) (by
      obtain ⟨es, clock, hb, Ft, hs, hD⟩ := hown
      exact ⟨es, clock, (Below.heap_alloc _ _ b hbl).trans hb, Ft, hs, hD⟩)
  have cK : ∀ mb W, CallsIn Fence.wide 5 Try.prog 28 #[.map mb] W fun e w' => e = .returned (.func (.func 42) #[] #[.pointer (some ⟨W.heap.size, 0, none⟩)]) ∧ w' = W.alloc (.cells #[.map mb] 51) := fun mb W => AnyZI.keys_in Try.keysA Fence.wide 5 trivial rfl mb W
  have cS := AnyZI.sorted_in Try.sortedA Fence.wide 5 trivial trivial trivial trivial rfl (by omega) (sortsA _) (enters_of Try.func41 (by kernel_rfl) rfl) 42 #[.pointer (some ⟨w.heap.size, 0, none⟩)] trivial (enters_of Try.func42 (by kernel_rfl) rfl) _ _ hmax hbytes _ hseq
  change CallsIn _ _ Try.prog 27 _ _ _ at cS
  have hfK : Fence.wide.fn 28 := trivial
  have hfS : Fence.wide.fn 27 := trivial
  refine callsIn_of_wp Try.func15 rfl trivial ?_ rfl
  simp only [Try.ntmps15, List.size_toArray, List.length_cons, List.length_nil, Nat.reduceAdd, Nat.reduceSub, Array.replicate_succ, Array.replicate_zero, List.push_toArray, List.append_toArray, List.nil_append, List.cons_append]
  gi_wp2_with (first
    | (gi_at_call 28; refine (cK _ _).mono ?_; rintro e w' ⟨rfl, rfl⟩)
    | (gi_at_call 27; refine cS.mono ?_; rintro e w' ⟨v, ss, rfl, hS, hrow, hnil, hb⟩))
  go_ret
  exact ⟨v, ss, rfl, hS, ownsRow_base_a hrow (by simp), hnil, ((Below.refl _ w).alloc (Nat.le_refl _) _).trans (hb.mono (by simp))⟩

theorem used_sorted {H : Type} {D : DataW H} {b nn : Nat} {R : Value → Option (DataW H × List MemPlace)} {w : World} {f : Int → Int} {n : Nat} {ss : List Int} (hown : w.ownsMap Try.prog 3 R b nn D) (hhas : ∀ k : Int, Maps.has D (.int .i64 k) = decide (f k ≠ 0)) (hin : ∀ k, f k ≠ 0 → 0 ≤ k ∧ k < n) (hS : ss.Perm (intKeys D)) :
    ss.mergeSort (fun x y => decide (x ≤ y)) = Rf.used f n := by
  have hp : (Rf.used f n).Perm (intKeys D) := by
    obtain ⟨es, hD, hpw, _⟩ := hown.entries law3
    obtain ⟨es', hD', hko⟩ := hown.keysOf
    obtain rfl : es = es' := by rw [hD] at hD'; simpa using hD'
    subst hD
    refine perm_intKeys hpw (fun p hp => by obtain ⟨v, hv⟩ := hko p hp; obtain ⟨x, _, hx, _⟩ := Maps.keyOf_i64 Try.underlying3 hv; exact ⟨x, hx⟩) (Rf.used_nodup f n) (fun x => ?_)
    rw [hhas x, Rf.mem_used]
    simp only [decide_eq_true_eq]
    exact ⟨fun h => h.2.2, fun h => ⟨(hin x h).1, (hin x h).2, h⟩⟩
  rw [show ss.mergeSort (fun x y => decide (x ≤ y)) = (Rf.used f n).mergeSort leI from mergeSort_of_perm_i (hS.trans hp.symm)]
  refine List.Perm.eq_of_pairwise (le := fun a b => leI a b = true) (fun a b _ _ h1 h2 => ?_) (List.pairwise_mergeSort (fun a b c h1 h2 => ?_) (fun a b => ?_) _) ((Rf.used_rising f n).imp (fun h => ?_)) (List.mergeSort_perm _ _)
  · simp only [leI, decide_eq_true_eq] at h1 h2; exact Int.le_antisymm h1 h2
  · simp only [leI, decide_eq_true_eq] at *; exact Int.le_trans h1 h2
  · simp only [leI, Bool.or_eq_true, decide_eq_true_eq]; exact Int.le_total a b
  · simp only [leI, decide_eq_true_eq]; omega

/-- Used: the blocks that are not free, rising -/
theorem rused_any (r bm : Nat) (f : Int → Int) (B low : Int) (w : World) (h : IsRf w r bm f B low) :
    Calls Try.prog 15 #[.pointer (some ⟨r, 0, none⟩)] w fun e w' => ∃ v, e = .returned v ∧ w'.ownsRow w.heap.size 3 1 v (Rf.cntN f B.toNat) ((Rf.used f B.toNat).map (Value.int .i64)) ∧ Keep [] w w' := by
  obtain ⟨_, c1, _, _⟩ := h.cells
  have hc := h.map.cnt_lt
  obtain ⟨D, hown, hat, hhas, hsz, hB0, hB1, hin⟩ := h.map
  refine (used_any r bm _ D _ w c1 hown (by rw [hsz]; unfold maxLen; omega) (by rw [hsz]; omega)).mono ?_
  rintro e w' ⟨v, ss, rfl, hS, hrow, _, hb⟩
  have hs := used_sorted (n := B.toNat) hown hhas (fun k hk => by have := hin k hk; omega) hS
  rw [hs] at hrow
  have hl : ss.length = Rf.cntN f B.toNat := by
    rw [← Rf.used_length, ← hs, List.length_mergeSort]
  rw [hl] at hrow
  exact ⟨v, rfl, hrow, Keep.ofBelow hb⟩

end Go.Proofs.Ytlecdappgpbnlaa
