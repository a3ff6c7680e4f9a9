/-
  Package model: grown (a file gets so many bytes at least), Clip, truncate, write. No condition but that the op was cut, that its numbers are right, and that the nodes lie in memory.
-/
import Derived.Test.YtbmbjedpeepnfaaDoorMdN
import Derived.Test.YtbmbjedpeepnfaaDoorMdPa
namespace Go.Proofs.YtbmbjedpeepnfaaDoor
open Go.RowKit

/-- an append whose run is known, at a step of a region that draws -/
theorem step_apprun {P : Program} {w : World} {ops : Array Oper} {o : Oper} {a : Act} {K : Act → World → Prop} {Q : Exit → Act → World → Prop} {E : Prop} (hgd : o.guard = none) (s x : Operand) (t u : TypeId)
    (ho : o.op = .call { callee := .builtin .append, args := #[s, x], argTypes := #[t, u] }) (vs vx : Value) (hs : a.eval s = vs) (hx : a.eval x = vx) {v' : Value} {w' : World}
    (hr : (Builtin.append_ #[t, u] o.type #[vs, vx]).run P w = .ok v' w') (h : K (a.put o.dst v') w') : if Region.wanted o (yielded ops a.tmps) = true then Oper.wp P o a w K Q else E :=
  step_app hgd s x t u ho vs vx hs hx (R := fun v z => v = v' ∧ z = w') ⟨v', w', hr, rfl, rfl⟩ (fun v z e => by rw [e.1, e.2]; exact h)

/-- an append whose run is known -/
theorem wpList_apprun {P : Program} {w : World} {ops : Array Oper} {rest : List Oper} {o : Oper} {a : Act} {Q : Exit → Act → World → Prop} (hgd : o.guard = none) (s x : Operand) (t u : TypeId)
    (ho : o.op = .call { callee := .builtin .append, args := #[s, x], argTypes := #[t, u] }) (vs vx : Value) (hs : a.eval s = vs) (hx : a.eval x = vx) {v' : Value} {w' : World}
    (hr : (Builtin.append_ #[t, u] o.type #[vs, vx]).run P w = .ok v' w') (h : wpList P ops Q rest (a.put o.dst v') w') : wpList P ops Q (o :: rest) a w :=
  wpList_app hgd s x t u ho vs vx hs hx (R := fun v z => v = v' ∧ z = w') ⟨v', w', hr, rfl, rfl⟩ (fun v z e => by rw [e.1, e.2]; exact h)

/-- a file's bytes changed by a call -/
structure GrownOut (b : Nat) (m : Option Nat) (links : Int) (dv : Value) (xs' : List UInt8) (w w' : World) (dv' : Value) : Prop where
  blk : Blk w' b [.map m, dv', .int .i64 links] 82
  row : DRow w' dv' xs'
  keep : Keep (b :: rowOf dv) w w'
  rows : ∀ j ∈ rowOf dv', j ∈ rowOf dv ∨ w.heap.size ≤ j

theorem Md.grown_le {xs : List UInt8} {n : Nat} (h : n ≤ xs.length) : Md.grown xs n = xs := by
  unfold Md.grown
  rw [Nat.sub_eq_zero_of_le h]
  simp

set_option maxRecDepth 100000 in
set_option maxHeartbeats 4000000 in
theorem grown_any (b : Nat) (m : Option Nat) (dv : Value) (links : Int) (xs : List UInt8) (n : Nat) (w : World) (B : Blk w b [.map m, dv, .int .i64 links] 82) (D : DRow w dv xs) (hb : b ∉ rowOf dv) (hx : xs.length ≤ 1048576) (hn : n ≤ 1048576) :
    Calls Tryd.prog 71 #[.pointer (some ⟨b, 0, none⟩), .int .i64 n] w fun e w' => e = .returned (.tuple #[]) ∧ ∃ dv', GrownOut b m links dv (Md.grown xs n) w w' dv' := by
  obtain ⟨ao, c, hdv⟩ := D.slice
  obtain ⟨L, hL⟩ : ∃ L, L = xs.length := ⟨_, rfl⟩
  rw [← hL] at hdv
  have q1 := B.cell 1
  simp only [List.getElem?_cons_zero, List.getElem?_cons_succ] at q1
  rw [hdv] at q1
  have HDV := Lib.hid hdv
  have HL := Lib.hid hL
  go_enter Tryd.func71, Tryd.ntmps71
  by_cases hc : n ≤ L
  · have hcI : ¬ ((L : Int) < (n : Int)) := by omega
    have he : Md.grown xs n = xs := Md.grown_le (by omega)
    have HE := Lib.hid he
    have HB := Lib.hid B
    have HD := Lib.hid D
    clear he B D hdv hL
    go_wp2
    go_end0
    exact ⟨rfl, dv, by rw [HE.out]; exact ⟨HB.out, HD.out, Keep.refl _ _, fun _ h => Or.inl h⟩⟩
  · have hcI : (L : Int) < (n : Int) := by omega
    obtain ⟨k, hk⟩ : ∃ k, k = n - L := ⟨_, rfl⟩
    have hkI : (n : Int) - (L : Int) = (k : Int) := by omega
    have KD : Keep [] w w.drew := (Keep.refl [] w).drew
    obtain ⟨v', w2, hrun, D2, hg, hr, ao', c', hv'⟩ := (D.keep KD (by simp)).zeros k (by omega) (by omega) 48
    have K2 : Keep (rowOf dv) w w2 := (KD.mono (by simp)).grown hg (fun j hj => Or.inl (mem_rowOf.2 hj))
    have B2 := B.keep K2 hb
    have hgr : Md.grown xs n = xs ++ List.replicate k 0 := by unfold Md.grown; rw [hk, hL]
    have HG := Lib.hid hgr
    have HD2 := Lib.hid D2
    have HB2 := Lib.hid B2
    have HR := Lib.hid hr
    have f1 := B2.free 1
    have c1 := B2.cell 1
    simp only [List.getElem?_cons_zero, List.getElem?_cons_succ] at c1
    rw [hdv] at c1
    have p1 : w.drew.cell? ⟨b, 1, none⟩ = some (.slice ao L c) := q1
    have hnk : xs.length + k = n := by omega
    rw [hnk] at hv'
    subst hv'
    rw [hdv] at hrun
    have HB := Lib.hid hb
    clear hgr D2 B2 hr B D hdv hL hk hb hnk
    go_upto_region 1 with fail
    have hLm : L ≤ 1048576 := by rw [HL.out]; exact hx
    have hwr : IntKind.i64.wrap ((n : Int) - (L : Int)) = (k : Int) := by rw [hkI]; exact IntWalk.i64_in _ (by omega)
    rw [← hwr] at hrun
    have HRUN := Lib.hid hrun
    clear hkI hrun hwr
    go_region_law (refine step_apprun rfl (.tmp 15) (.tmp 22) 48 3 rfl _ _ rfl rfl HRUN.out ?_)
    all_goals
      go_simp
      go_wp2
      go_end0
      refine ⟨rfl, .slice ao' n c', ?_⟩
      rw [HG.out]
      have k3 : Keep [b] w2 (w2.setCell ⟨b, 1, none⟩ (.slice ao' n c')) := (Keep.refl _ _).setCell (Or.inl (by simp)) _
      refine ⟨HB2.out.set 1 (.slice ao' n c'), HD2.out.keep k3 (fun j hj e => ?_), (K2.mono (G := b :: rowOf dv) (fun x hx => Or.inl (by simp [hx]))).setCell (Or.inl (by simp)) _, fun j hj => ?_⟩
      · simp at e
        subst e
        rcases HR.out j hj with h | h
        · exact HB.out h
        · have := HB2.out.lt
          have : w.heap.size ≤ j := h
          have hq := World.block_lt_of_cell? w ⟨j, 1, none⟩ q1
          have : j < w.heap.size := hq
          omega
      · rcases HR.out j hj with h | h
        · exact Or.inl h
        · exact Or.inr h

set_option maxRecDepth 100000 in
/-- Clip of a row's beginning -/
theorem clip_any (ao : Option Addr) (n c : Nat) (w : World) (h : n ≤ c) :
    Calls Tryd.prog 72 #[.slice ao n c] w fun e w' => e = .returned (.slice ao n n) ∧ w' = w := by
  go_enter Tryd.func72, Tryd.ntmps72
  go_wp2
  go_ret
  exact ⟨rfl, rfl⟩
end Go.Proofs.YtbmbjedpeepnfaaDoor
