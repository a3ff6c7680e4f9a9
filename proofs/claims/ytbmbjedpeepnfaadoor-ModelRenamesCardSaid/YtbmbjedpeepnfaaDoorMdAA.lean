/-
  Package model: what Do answers, and how its answer is stored. No condition.
-/
import Derived.Test.YtbmbjedpeepnfaaDoorMdT
import Derived.Test.YtbmbjedpeepnfaaDoorMdG
namespace Go.Proofs.YtbmbjedpeepnfaaDoor
open Go.RowKit Go.Shelf

/-- what Do leaves: an answer, whose names lie by themselves, and the nodes behind it -/
def DoOut (mb : Nat) (ms : List NdM) (r : Md.St × Md.Rep) (w w' : World) (e : Ending) : Prop :=
  ∃ ms' ao c, e = .returned (repV ao c r.2) ∧ w'.ownsRow w.heap.size 9 1 (.slice ao r.2.names.length c) r.2.names.length (r.2.names.map Value.string) ∧ IsM w' mb ms' r.1 ∧ Keep (fps ms) w w' ∧ (∀ k ∈ fps ms', k ∈ fps ms ∨ w.heap.size ≤ k) ∧ (∀ k ∈ rowOf (.slice ao r.2.names.length c), k ∉ fps ms')

/-- an answer with nothing in it yet -/
abbrev rep0 : List Value := [.int .i64 0, .string ⟨#[]⟩, .slice none 0 0, .bool false, .int .i64 0, .int .i64 0]

abbrev six (W : World) (b : Nat) (x0 x1 x2 x3 x4 x5 : Value) : World := (((((W.setCell ⟨b, 0, none⟩ x0).setCell ⟨b, 1, none⟩ x1).setCell ⟨b, 2, none⟩ x2).setCell ⟨b, 3, none⟩ x3).setCell ⟨b, 4, none⟩ x4).setCell ⟨b, 5, none⟩ x5

theorem six_keep (W : World) (b : Nat) (x0 x1 x2 x3 x4 x5 : Value) : Keep [b] W (six W b x0 x1 x2 x3 x4 x5) :=
  (((((((Keep.refl [b] W).setCell (Or.inl (by simp)) _).setCell (Or.inl (by simp)) _).setCell (Or.inl (by simp)) _).setCell (Or.inl (by simp)) _).setCell (Or.inl (by simp)) _).setCell (Or.inl (by simp)) _)

theorem rep_cells {W : World} {b : Nat} {t : TypeId} (B : Blk W b rep0 t) :
    (W.cell? ⟨b, 0, none⟩ = some (.int .i64 0) ∧ W.cell? ⟨b, 1, none⟩ = some (.string ⟨#[]⟩) ∧ W.cell? ⟨b, 2, none⟩ = some (.slice none 0 0) ∧ W.cell? ⟨b, 3, none⟩ = some (.bool false) ∧ W.cell? ⟨b, 4, none⟩ = some (.int .i64 0) ∧ W.cell? ⟨b, 5, none⟩ = some (.int .i64 0)) ∧
    (W.frozen? ⟨b, 0, none⟩ = false ∧ W.frozen? ⟨b, 1, none⟩ = false ∧ W.frozen? ⟨b, 2, none⟩ = false ∧ W.frozen? ⟨b, 3, none⟩ = false ∧ W.frozen? ⟨b, 4, none⟩ = false ∧ W.frozen? ⟨b, 5, none⟩ = false) :=
  ⟨⟨B.cell 0, B.cell 1, B.cell 2, B.cell 3, B.cell 4, B.cell 5⟩, B.free 0, B.free 1, B.free 2, B.free 3, B.free 4, B.free 5⟩

theorem rep_reads {W : World} {b : Nat} {t : TypeId} {cs : List Value} (B : Blk W b cs t) (hl : cs.length = 6) :
    (∀ x0, (W.setCell ⟨b, 0, none⟩ x0).cell? ⟨b, 0, none⟩ = some x0) ∧
    (∀ x0 x1, ((W.setCell ⟨b, 0, none⟩ x0).setCell ⟨b, 1, none⟩ x1).cell? ⟨b, 1, none⟩ = some x1) ∧
    (∀ x0 x1 x2, (((W.setCell ⟨b, 0, none⟩ x0).setCell ⟨b, 1, none⟩ x1).setCell ⟨b, 2, none⟩ x2).cell? ⟨b, 2, none⟩ = some x2) ∧
    (∀ x0 x1 x2 x3, ((((W.setCell ⟨b, 0, none⟩ x0).setCell ⟨b, 1, none⟩ x1).setCell ⟨b, 2, none⟩ x2).setCell ⟨b, 3, none⟩ x3).cell? ⟨b, 3, none⟩ = some x3) ∧
    (∀ x0 x1 x2 x3 x4, (((((W.setCell ⟨b, 0, none⟩ x0).setCell ⟨b, 1, none⟩ x1).setCell ⟨b, 2, none⟩ x2).setCell ⟨b, 3, none⟩ x3).setCell ⟨b, 4, none⟩ x4).cell? ⟨b, 4, none⟩ = some x4) ∧
    (∀ x0 x1 x2 x3 x4 x5, ((((((W.setCell ⟨b, 0, none⟩ x0).setCell ⟨b, 1, none⟩ x1).setCell ⟨b, 2, none⟩ x2).setCell ⟨b, 3, none⟩ x3).setCell ⟨b, 4, none⟩ x4).setCell ⟨b, 5, none⟩ x5).cell? ⟨b, 5, none⟩ = some x5) := by
  have S : ∀ {w : World} {ds : List Value} (i : Nat) (u : Value), Blk w b ds t → ds.length = 6 → i < 6 → (w.setCell ⟨b, i, none⟩ u).cell? ⟨b, i, none⟩ = some u ∧ Blk (w.setCell ⟨b, i, none⟩ u) b (ds.set i u) t ∧ (ds.set i u).length = 6 := fun i u B hl hi =>
    ⟨by rw [(B.set i u).cell i, List.getElem?_set_self (by omega)], B.set i u, by simpa using hl⟩
  refine ⟨fun x0 => (S 0 x0 B hl (by omega)).1, fun x0 x1 => ?_, fun x0 x1 x2 => ?_, fun x0 x1 x2 x3 => ?_, fun x0 x1 x2 x3 x4 => ?_, fun x0 x1 x2 x3 x4 x5 => ?_⟩
  · obtain ⟨_, B1, l1⟩ := S 0 x0 B hl (by omega)
    exact (S 1 x1 B1 l1 (by omega)).1
  · obtain ⟨_, B1, l1⟩ := S 0 x0 B hl (by omega)
    obtain ⟨_, B2, l2⟩ := S 1 x1 B1 l1 (by omega)
    exact (S 2 x2 B2 l2 (by omega)).1
  · obtain ⟨_, B1, l1⟩ := S 0 x0 B hl (by omega)
    obtain ⟨_, B2, l2⟩ := S 1 x1 B1 l1 (by omega)
    obtain ⟨_, B3, l3⟩ := S 2 x2 B2 l2 (by omega)
    exact (S 3 x3 B3 l3 (by omega)).1
  · obtain ⟨_, B1, l1⟩ := S 0 x0 B hl (by omega)
    obtain ⟨_, B2, l2⟩ := S 1 x1 B1 l1 (by omega)
    obtain ⟨_, B3, l3⟩ := S 2 x2 B2 l2 (by omega)
    obtain ⟨_, B4, l4⟩ := S 3 x3 B3 l3 (by omega)
    exact (S 4 x4 B4 l4 (by omega)).1
  · obtain ⟨_, B1, l1⟩ := S 0 x0 B hl (by omega)
    obtain ⟨_, B2, l2⟩ := S 1 x1 B1 l1 (by omega)
    obtain ⟨_, B3, l3⟩ := S 2 x2 B2 l2 (by omega)
    obtain ⟨_, B4, l4⟩ := S 3 x3 B3 l3 (by omega)
    obtain ⟨_, B5, l5⟩ := S 4 x4 B4 l4 (by omega)
    exact (S 5 x5 B5 l5 (by omega)).1

/-- an answer that changes nothing -/
theorem do_tells {w wz : World} {mb b4 : Nat} {ms : List NdM} {s : Md.St} (h : IsM w mb ms s) (K : Keep [] w wz) (h4 : w.heap.size ≤ b4) {r : Md.Rep} {ao : Option Addr} {c : Nat} (hr : wz.ownsRow w.heap.size 9 1 (.slice ao r.names.length c) r.names.length (r.names.map Value.string)) (hb : b4 ∉ rowOf (.slice ao r.names.length c)) (x0 x1 x2 x3 x4 x5 : Value) :
    DoOut mb ms (s, r) w (six wz b4 x0 x1 x2 x3 x4 x5) (.returned (repV ao c r)) := by
  have k6 := six_keep wz b4 x0 x1 x2 x3 x4 x5
  have KF : Keep [] w (six wz b4 x0 x1 x2 x3 x4 x5) := K.trans k6 (fun x hx => Or.inr (by simp at hx; omega))
  refine ⟨ms, ao, c, rfl, ownsRow_keep hr k6 (fun x hx e => hb (by simp at e; rw [← e]; exact hx)), h.keep KF (by simp) (by simp), KF.mono (by simp), fun k hk => Or.inl hk, fun k hk e => ?_⟩
  have := h.mem.lt k e
  rcases hr.2 with ⟨h1, _⟩ | ⟨g, cap, cur, h1, hg, _⟩
  · simp only at hk
    rw [h1] at hk; simp [rowOf, Value.ownBlock] at hk
  · simp only at hk
    rw [h1] at hk; simp [rowOf, Value.ownBlock] at hk; omega

theorem do_err {w wz : World} {mb b4 : Nat} {ms : List NdM} {s : Md.St} (h : IsM w mb ms s) (K : Keep [] w wz) (h4 : w.heap.size ≤ b4) (x : Int) (x0 x1 x2 x3 x4 x5 : Value) :
    DoOut mb ms (s, Md.er x) w (six wz b4 x0 x1 x2 x3 x4 x5) (.returned (repV none 0 (Md.er x))) :=
  do_tells h K h4 (r := Md.er x) (World.ownsRow_nil _ _ _ _) (by simp [rowOf, Value.ownBlock]) x0 x1 x2 x3 x4 x5

/-- an answer that is an error or none, behind a change -/
theorem do_done {w w1 w2 : World} {mb b4 : Nat} {ms : List NdM} {s : Md.St} {r : Md.St × Int} {v : Value} (h : IsM w mb ms s) (K : Keep [] w w1) (h4 : w.heap.size ≤ b4) (h5 : b4 < w1.heap.size) (D : DoneOut mb ms r w1 w2 (.returned v)) (x0 x1 x2 x3 x4 x5 : Value) :
    v = .int .i64 r.2 ∧ Keep (fps ms) w1 w2 ∧ DoOut mb ms (r.1, Md.er r.2) w (six w2 b4 x0 x1 x2 x3 x4 x5) (.returned (repV none 0 (Md.er r.2))) := by
  obtain ⟨ms', e, hM, k, hf⟩ := D
  have hmb := h.blk.lt
  have k6 := six_keep w2 b4 x0 x1 x2 x3 x4 x5
  have h4n : b4 ∉ fps ms' := fun e => by
    rcases hf b4 e with e | e
    · have := h.mem.lt b4 e; omega
    · omega
  have hmn : mb ≠ b4 := by omega
  refine ⟨by injection e, k, ms', none, 0, rfl, World.ownsRow_nil _ _ _ _, hM.keep k6 (by simpa using hmn) (fun i hi e => h4n (by simp at e; rw [← e]; exact hi)), ?_, fun j hj => ?_, fun j hj => by simp [rowOf, Value.ownBlock] at hj⟩
  · exact ((K.mono (G := fps ms) (by simp)).trans k (fun x hx => Or.inl hx)).trans k6 (fun x hx => Or.inr (by simp at hx; omega))
  · rcases hf j hj with e | e
    · exact Or.inl e
    · exact Or.inr (Nat.le_trans K.size e)
end Go.Proofs.YtbmbjedpeepnfaaDoor
