/-
  The small case with which each statement of pack begins: it works. No condition.
-/
import Derived.Test.YteogkgjajhdhjaaDoorPackE
namespace Go.Proofs.YteogkgjajhdhjaaDoor
open Go.RowKit

/-- a writer whose blocks all are of the call's own: none is below B -/
structure LW (B : Nat) (w : World) (bw : Nat) (v : Value) (st : Pk.Wr) : Prop where
  isw : IsW w bw v st
  hb : B ≤ bw
  hv : ∀ x ∈ rowOf v, B ≤ x

/-- its blocks -/
def wfp (bw : Nat) (v : Value) : List Nat := bw :: rowOf v

theorem LW.lt {B : Nat} {w : World} {bw : Nat} {v : Value} {st : Pk.Wr} (h : LW B w bw v st) : ∀ x ∈ wfp bw v, x < w.heap.size := by
  intro x hx
  rcases List.mem_cons.1 hx with rfl | hx
  · exact h.isw.blk.lt
  · exact (h.isw.own.lt x (mem_rowOf.1 hx)).2

theorem LW.ge {B : Nat} {w : World} {bw : Nat} {v : Value} {st : Pk.Wr} (h : LW B w bw v st) : ∀ x ∈ wfp bw v, B ≤ x := by
  intro x hx
  rcases List.mem_cons.1 hx with rfl | hx
  · exact h.hb
  · exact h.hv x hx

theorem LW.step {w0 w w' : World} {bw : Nat} {v : Value} {st st' : Pk.Wr} (h : LW w0.heap.size w bw v st) (k : Keep [] w0 w) (o : WOut w w' bw v st') :
    ∃ v', LW w0.heap.size w' bw v' st' ∧ Keep [] w0 w' ∧ Keep (wfp bw v) w w' ∧ ∀ x ∈ wfp bw v', x ∈ wfp bw v ∨ w.heap.size ≤ x := by
  obtain ⟨v', h1, k1, r1⟩ := o
  refine ⟨v', ⟨h1, h.hb, fun x hx => (r1 x hx).elim (h.hv x) (fun e => Nat.le_trans k.size e)⟩, k.trans k1 (fun x hx => Or.inr (h.ge x hx)), k1, fun x hx => ?_⟩
  rcases List.mem_cons.1 hx with rfl | hx
  · exact Or.inl (by simp [wfp])
  · exact (r1 x hx).imp (fun e => List.mem_cons_of_mem _ e) id

theorem LW.keep {F : List Nat} {B : Nat} {w w' : World} {bw : Nat} {v : Value} {st : Pk.Wr} (h : LW B w bw v st) (k : Keep F w w') (hd : ∀ x ∈ wfp bw v, x ∉ F) : LW B w' bw v st :=
  ⟨h.isw.keep k (hd bw (by simp [wfp])) (fun x hx => hd x (List.mem_cons_of_mem _ hx)), h.hb, h.hv⟩

/-- a reader whose blocks all are of the call's own -/
structure LR (B : Nat) (w : World) (br : Nat) (v : Value) (st : Pk.Rd) : Prop where
  isr : IsR w br v st
  hb : B ≤ br
  hv : ∀ x ∈ fpOf v, B ≤ x

def rfp (br : Nat) (v : Value) : List Nat := br :: fpOf v

theorem LR.lt {B : Nat} {w : World} {br : Nat} {v : Value} {st : Pk.Rd} (h : LR B w br v st) : ∀ x ∈ rfp br v, x < w.heap.size := by
  intro x hx
  rcases List.mem_cons.1 hx with rfl | hx
  · exact h.isr.blk.lt
  · exact h.isr.rd.lt (by omega) x hx

theorem LR.step {w0 w w' : World} {br : Nat} {v : Value} {st st' : Pk.Rd} (h : LR w0.heap.size w br v st) (k : Keep [] w0 w) (o : ROut w w' br v st') :
    ∃ v', LR w0.heap.size w' br v' st' ∧ Keep [] w0 w' ∧ Keep [br] w w' ∧ ∀ x ∈ rfp br v', x ∈ rfp br v := by
  obtain ⟨v', h1, k1, r1⟩ := o
  refine ⟨v', ⟨h1, h.hb, fun x hx => h.hv x (r1 x hx)⟩, k.trans k1 (fun x hx => Or.inr (by simp at hx; subst hx; exact h.hb)), k1, fun x hx => ?_⟩
  rcases List.mem_cons.1 hx with rfl | hx
  · exact by simp [rfp]
  · exact List.mem_cons_of_mem _ (r1 x hx)

theorem LR.keep {F : List Nat} {B : Nat} {w w' : World} {br : Nat} {v : Value} {st : Pk.Rd} (h : LR B w br v st) (k : Keep F w w') (hd : ∀ x ∈ rfp br v, x ∉ F) : LR B w' br v st :=
  ⟨h.isr.keep k (hd br (by simp [rfp])) (fun x hx => hd x (List.mem_cons_of_mem _ hx)), h.hb, h.hv⟩

theorem LW.new {w0 w w' : World} {m : Int} (k : Keep [] w0 w) (h : IsW w' w.heap.size (.slice none 0 0) ⟨[], m.toNat, false⟩) : LW w0.heap.size w' w.heap.size (.slice none 0 0) ⟨[], m.toNat, false⟩ :=
  ⟨h, k.size, by simp [rowOf, Value.ownBlock]⟩

theorem LR.new {w0 w w' : World} {br : Nat} {v : Value} {st : Pk.Rd} (k : Keep [] w0 w) (h : IsR w' br v st) (hb : w.heap.size ≤ br) (hv : ∀ x ∈ fpOf v, w.heap.size ≤ x) : LR w0.heap.size w' br v st :=
  ⟨h, Nat.le_trans k.size hb, fun x hx => Nat.le_trans k.size (hv x hx)⟩

theorem slice_of_own {w : World} {base : Nat} {e : TypeId} {size : Nat} {v : Value} {n : Nat} {xs : List Value} (h : w.ownsRow base e size v n xs) : ∃ ao c, v = .slice ao n c := by
  obtain ⟨_, ao, c, e, _⟩ := RdV.ofOwn h
  exact ⟨ao, c, e⟩

end Go.Proofs.YteogkgjajhdhjaaDoor