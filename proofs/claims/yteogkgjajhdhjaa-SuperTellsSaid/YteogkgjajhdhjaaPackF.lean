/-
  The small case with which each statement of pack begins: it works. No condition.
-/
import Derived.Test.YteogkgjajhdhjaaPackE
namespace Go.Proofs.Yteogkgjajhdhjaa
open Go.RowKit

/-- a writer whose blocks all are of the call's own: none is below B -/
structure LW (B : Nat) (w : World) (bw : Nat) (v : Value) (st : Pk.Wr) : Prop where
  isw : IsW w bw v st
  hb : B ≤ bw
  hv : ∀ x ∈ rowOf v, B ≤ x

/-- its blocks -/
def wfp (bw : Nat) (v : Value) : List Nat := bw :: rowOf v

theorem LW.lt {B : Nat} {w : World} {bw : Nat} {v : Value} {st : Pk.Wr} (h : LW B w bw v st) : ∀ x ∈ wfp bw v, x < w.heap.size := by
  intro x hx
  rcases List.mem_cons.1 hx with rfl | hx
  · exact h.isw.blk.lt
  · exact (h.isw.own.lt x (mem_rowOf.1 hx)).2

theorem LW.ge {B : Nat} {w : World} {bw : Nat} {v : Value} {st : Pk.Wr} (h : LW B w bw v st) : ∀ x ∈ wfp bw v, B ≤ x := by
  intro x hx
  rcases List.mem_cons.1 hx with rfl | hx
  · exact h.hb
  · exact h.hv x hx

theorem LW.step {w0 w w' : World} {bw : Nat} {v : Value} {st st' : Pk.Wr} (h : LW w0.heap.size w bw v st) (k : Keep [] w0 w) (o : WOut w w' bw v st') :
    ∃ v', LW w0.heap.size w' bw v' st' ∧ Keep [] w0 w' ∧ Keep (wfp bw v) w w' ∧ ∀ x ∈ wfp bw v', x ∈ wfp bw v ∨ w.heap.size ≤ x := by
  obtain ⟨v', h1, k1, r1⟩ := o
  refine ⟨v', ⟨h1, h.hb, fun x hx => (r1 x hx).elim (h.hv x) (fun e => Nat.le_trans k.size e)⟩, k.trans k1 (fun x hx => Or.inr (h.ge x hx)), k1, fun x hx => ?_⟩
  rcases List.mem_cons.1 hx with rfl | hx
  · exact Or.inl (by simp [wfp])
  · exact (r1 x hx).imp (fun e => List.mem_cons_of_mem _ e) id

theorem LW.keep {F : List Nat} {B : Nat} {w w' : World} {bw : Nat} {v : Value} {st : Pk.Wr} (h : LW B w bw v st) (k : Keep F w w') (hd : ∀ x ∈ wfp bw v, x ∉ F) : LW B w' bw v st :=
  ⟨h.isw.keep k (hd bw (by simp [wfp])) (fun x hx => hd x (List.mem_cons_of_mem _ hx)), h.hb, h.hv⟩

/-- a reader whose blocks all are of the call's own -/
structure LR (B : Nat) (w : World) (br : Nat) (v : Value) (st : Pk.Rd) : Prop where
  isr : IsR w br v st
  hb : B ≤ br
  hv : ∀ x ∈ fpOf v, B ≤ x

def rfp (br : Nat) (v : Value) : List Nat := br :: fpOf v

theorem LR.lt {B : Nat} {w : World} {br : Nat} {v : Value} {st : Pk.Rd} (h : LR B w br v st) : ∀ x ∈ rfp br v, x < w.heap.size := by
  intro x hx
  rcases List.mem_cons.1 hx with rfl | hx
  · exact h.isr.blk.lt
  · exact h.isr.rd.lt (by omega) x hx

theorem LR.step {w0 w w' : World} {br : Nat} {v : Value} {st st' : Pk.Rd} (h : LR w0.heap.size w br v st) (k : Keep [] w0 w) (o : ROut w w' br v st') :
    ∃ v', LR w0.heap.size w' br v' st' ∧ Keep [] w0 w' ∧ Keep [br] w w' ∧ ∀ x ∈ rfp br v', x ∈ rfp br v := by
  obtain ⟨v', h1, k1, r1⟩ := o
  refine ⟨v', ⟨h1, h.hb, fun x hx => h.hv x (r1 x hx)⟩, k.trans k1 (fun x hx => Or.inr (by simp at hx; subst hx; exact h.hb)), k1, fun x hx => ?_⟩
  rcases List.mem_cons.1 hx with rfl | hx
  · exact by simp [rfp]
  · exact List.mem_cons_of_mem _ (r1 x hx)

theorem LR.keep {F : List Nat} {B : Nat} {w w' : World} {br : Nat} {v : Value} {st : Pk.Rd} (h : LR B w br v st) (k : Keep F w w') (hd : ∀ x ∈ rfp br v, x ∉ F) : LR B w' br v st :=
  ⟨h.isr.keep k (hd br (by simp [rfp])) (fun x hx => hd x (List.mem_cons_of_mem _ hx)), h.hb, h.hv⟩

theorem LW.new {w0 w w' : World} {m : Int} (k : Keep [] w0 w) (h : IsW w' w.heap.size (.slice none 0 0) ⟨[], m.toNat, false⟩) : LW w0.heap.size w' w.heap.size (.slice none 0 0) ⟨[], m.toNat, false⟩ :=
  ⟨h, k.size, by simp [rowOf, Value.ownBlock]⟩

theorem LR.new {w0 w w' : World} {br : Nat} {v : Value} {st : Pk.Rd} (k : Keep [] w0 w) (h : IsR w' br v st) (hb : w.heap.size ≤ br) (hv : ∀ x ∈ fpOf v, w.heap.size ≤ x) : LR w0.heap.size w' br v st :=
  ⟨h, Nat.le_trans k.size hb, fun x hx => Nat.le_trans k.size (hv x hx)⟩

theorem slice_of_own {w : World} {base : Nat} {e : TypeId} {size : Nat} {v : Value} {n : Nat} {xs : List Value} (h : w.ownsRow base e size v n xs) : ∃ ao c, v = .slice ao n c := by
  obtain ⟨_, ao, c, e, _⟩ := RdV.ofOwn h
  exact ⟨ao, c, e⟩

set_option maxRecDepth 100000 in
set_option maxHeartbeats 1600000 in
theorem shown_any (w : World) : Calls Try.prog 17 #[] w fun e w' => e = .returned (.bool true) ∧ Keep [] w w' := by
  go_enter Try.func17, Try.ntmps17
  go_wp2_with fail
  refine (new_any 10 w (by omega)).mono ?_
  rintro e w1 ⟨rfl, h1, k1, _⟩
  obtain ⟨bw, hbw⟩ : ∃ bw, bw = w.heap.size := ⟨_, rfl⟩
  have L1 : LW w.heap.size w1 bw (.slice none 0 0) ⟨[], (10 : Int).toNat, false⟩ := by rw [hbw]; exact LW.new (Keep.refl [] w) h1
  rw [← hbw]
  clear hbw h1
  go_wp2_with fail
  refine (byte_any bw _ _ 5 w1 (by omega) (by omega) L1.isw).mono ?_
  rintro e w2 ⟨rfl, o2⟩
  obtain ⟨v2, L2, k2, _, _⟩ := LW.step (w0 := w) L1 k1 o2
  clear o2
  go_wp2_with fail
  refine (text_any bw _ _ _ w2 (by decide) L2.isw).mono ?_
  rintro e w3 ⟨rfl, o3⟩
  obtain ⟨v3, L3, k3, _, _⟩ := LW.step (w0 := w) L2 k2 o3
  clear o3
  go_wp2_with fail
  refine (fill_any bw _ _ 6 w3 L3.isw).mono ?_
  rintro e w4 ⟨rfl, o4⟩
  obtain ⟨v4, L4, k4, _, _⟩ := LW.step (w0 := w) L3 k3 o4
  clear o4
  go_wp2_with fail
  refine (done_any bw _ _ w4 L4.isw).mono ?_
  rintro e w5 ⟨v5, rfl, o5, k5, r5⟩
  rw [show (((⟨[], (10 : Int).toNat, false⟩ : Pk.Wr).byte 5).text [97, 98]).fill 6 = ⟨[5, 2, 97, 98, 0, 0], 10, false⟩ from rfl] at o5 ⊢
  simp only [Bool.false_eq_true, if_false] at o5
  have K5 : Keep [] w w5 := k4.trans k5 (by simp)
  obtain ⟨ao5, cap5, rfl⟩ := slice_of_own o5
  have rd5 : RdV w5 (.slice ao5 6 cap5) [5, 2, 97, 98, 0, 0].length 1 (bv [5, 2, 97, 98, 0, 0]) := RdV.ofOwn o5
  go_wp2_with fail
  refine (read_any _ [5, 2, 97, 98, 0, 0] w5 rd5 (by decide)).mono ?_
  rintro e w6 ⟨br, u6, rfl, h6, k6, b6, q6⟩
  have hd6 : ∀ x ∈ fpOf (.slice ao5 6 cap5), x ∉ [br] := fun x hx hx' => by simp at hx'; subst hx'; have := rd5.lt (by omega) x hx; omega
  have rd6 := rd5.keep k6 (by simp)
  have K6 : Keep [] w w6 := K5.trans k6 (by simp)
  have L6 := LR.new K5 h6 b6 q6
  go_wp2_with fail
  refine (rbyte_any br _ _ w6 L6.isr).mono ?_
  rintro e w7 ⟨rfl, o7⟩
  obtain ⟨u7, L7, K7, k7, _⟩ := LR.step (w0 := w) L6 K6 o7
  clear o7
  go_wp2_with fail
  refine (rtext_any br _ _ w7 L7.isr).mono ?_
  rintro e w8 ⟨rfl, o8⟩
  obtain ⟨u8, L8, K8, k8, _⟩ := LR.step (w0 := w) L7 K7 o8
  clear o8
  rw [show txt (rtext (Pk.Rd.skip ⟨[5, 2, 97, 98, 0, 0], false⟩ 1)) = ⟨#[97, 98]⟩ from rfl]
  rw [show Pk.rd (Pk.Rd.take ⟨[5, 2, 97, 98, 0, 0], false⟩ 1) = 5 from rfl]
  rw [show rtextSkip (Pk.Rd.skip ⟨[5, 2, 97, 98, 0, 0], false⟩ 1) = ⟨[0, 0], false⟩ from rfl] at L8
  have rd8 : RdV w8 (.slice ao5 6 cap5) [5, 2, 97, 98, 0, 0].length 1 (bv [5, 2, 97, 98, 0, 0]) := (rd6.keep k7 hd6).keep k8 hd6
  have hcv := conv_str rd8
  rw [show txt [5, 2, 97, 98, 0, 0] = ⟨#[5, 2, 97, 98, 0, 0]⟩ from rfl] at hcv
  clear rd5 rd6 o5 hd6
  go_wp2_with (first | (go_at_call 37; refine (noughts_any br _ _ _ L8.isr).mono ?_; rintro e w' ⟨rfl, rfl⟩) | (go_at_call 25; refine (left_any br _ _ _ L8.isr).mono ?_; rintro e w' ⟨rfl, rfl⟩) | (go_at_call 24; refine (wrong_any br _ _ _ L8.isr).mono ?_; rintro e w' ⟨rfl, rfl⟩))
  go_ret
  exact ⟨rfl, K8⟩
end Go.Proofs.Yteogkgjajhdhjaa
