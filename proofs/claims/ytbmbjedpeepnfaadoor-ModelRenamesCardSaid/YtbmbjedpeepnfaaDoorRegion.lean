/-
  A region that draws its order, whose first n operations only read, and whose others stand in one forced order behind all of these: one walk in the order of the text. (Out of the library's 'wp_region_still_tail', with the cheaper steps of its walk of quiet regions.) No condition.
-/
import Derived.Test.YtbmbjedpeepnfaaDoorBase
import Derived.StillTailTactics
import Derived.Deep.RegionHeld3
import Derived.Deep.RegionHeldLaw
import Derived.Deep.RegionLaw
import Derived.BigQuiet
import Derived.Deep.QuietTactic
namespace Go.Proofs.YtbmbjedpeepnfaaDoor
open Go.RowKit

theorem wpStill_of_quiet {P : Program} {ops : Array Oper} {C : World → Prop} {Q : Act → Prop} {w : World} (hC : ∀ w', C w' ↔ w' = w) : ∀ (l : List Oper) (a : Act), wpQuiet P ops C Q l a → wpStill P ops w Q l a
  | [], _, h => h
  | o :: l, a, h => by
    unfold wpQuiet at h
    unfold wpStill
    split
    · rename_i hw
      rw [if_pos hw] at h
      obtain ⟨v, h1, h2⟩ := h
      have h3 := h1 w ((hC w).2 rfl)
      unfold Oper.quietAt at h3
      unfold Oper.still
      have ih := wpStill_of_quiet hC l _ h2
      generalize (execOp a.eval o).run P w = r at *
      cases r with
      | ok n w' =>
        cases n <;> simp only [Oper.quietUpon] at h3 <;> simp only [Oper.stillUpon]
        case value u =>
          obtain ⟨e1, e2⟩ := h3
          exact ⟨e1, by rw [e2]; exact ih⟩
        case skip =>
          obtain ⟨e1, e2⟩ := h3
          exact ⟨e1, by rw [← e2]; exact ih⟩
        case enter f args =>
          obtain ⟨e1, hc⟩ := h3
          exact ⟨e1, v, hc.mono fun e w'' ⟨he, hw''⟩ => ⟨he, (hC w'').1 hw''⟩, ih⟩
      | halt x w' => simp only [Oper.quietUpon] at h3
    · rename_i hw
      rw [if_neg hw] at h
      exact wpStill_of_quiet hC l _ h

theorem wp_region_quiet_tail {P : Program} {id : Nat} {Q : Exit → Act → World → Prop} {a : Act} {w : World} {l : List Oper} (n : Nat) (hm : P.follows .mixedOrders = true) (hB : Region.lexTailB .any l.toArray n = true)
    (h : wpQuiet P l.toArray (fun w' => w' = w.drew) (fun a' => wpList P l.toArray Q (l.drop n) a' w.drew) (l.take n) a) : (Code.region id l.toArray true).wp P Q a w :=
  wp_region_still_tail n hm hB (wpStill_of_quiet (w := w.drew) (fun _ => Iff.rfl) _ _ h)

end Go.Proofs.YtbmbjedpeepnfaaDoor
