/-
  Package model: a new node entered into a directory; create. No condition but that the op was cut, that the nodes lie in memory, and that a directory has not too many entries.
-/
import Derived.Test.YtbmbjedpeepnfaaDoorMdH
namespace Go.Proofs.YtbmbjedpeepnfaaDoor
open Go.RowKit Go.Maps

/-- 'm[k] = v' in a region that draws -/
theorem step_nstore {w : World} {ops : Array Oper} {o : Oper} {a : Act} {K : Act → World → Prop} {Q : Exit → Act → World → Prop} {E : Prop} {m : Nat} {l : List (ByteArray × Nat)} {k : ByteArray} {b : Nat} (h : NMap w m l) (hk : k.size ≤ 1000) (hl : l.length < 1000000) (hg : o.guard = none) (x y u : Operand)
    (hop : o.op = Op.mapUpdate 80 x y u) (hm : a.eval x = .map (some m)) (hx : a.eval y = .string k) (hu : a.eval u = .pointer (some (at0 b)))
    (hK : ∀ w', NMap w' m (Md.put l k b) → Keep [m] w w' → K (a.put o.dst undef) w') : if Region.wanted o (yielded ops a.tmps) = true then Oper.wp Tryd.prog o a w K Q else E := by
  have hw : Region.wanted o (yielded ops a.tmps) = true := by simp [Region.wanted, hg]
  rw [if_pos hw]
  obtain ⟨D, hown, hat, hhas, hsz, hd⟩ := h
  obtain ⟨w', hrun, r1, r2⟩ := hown.store law9 Tryd.underlying80 (by rw [hsz]; unfold maxLen; omega) (WideMaps.keyOf_string_mk (s := k) Tryd.underlying9 (by unfold maxLen; omega)) (val := .pointer (some (at0 b))) (d := .lit (.int .i64 b)) (ps := []) rfl
  unfold Oper.wp
  simp [execOp, hop, hm, hx, hu, hrun, Result.andThen]
  exact hK _ (NMap.stored hat hhas hsz hd (hown.tidy law9) r1) ((Keep.refl _ _).grown r2.grown (fun k hk => by cases hk; exact Or.inl (by simp)))

/-- .. as an equation -/
theorem NMap.storeRun {w : World} {m : Nat} {l : List (ByteArray × Nat)} {k : ByteArray} {b : Nat} (h : NMap w m l) (hk : k.size ≤ 1000) (hl : l.length < 1000000) :
    ∃ w', (Instr.mapUpdate 80 (.map (some m)) (.string k) (.pointer (some ⟨b, 0, none⟩))).run Tryd.prog w = .ok () w' ∧ NMap w' m (Md.put l k b) ∧ Keep [m] w w' := by
  obtain ⟨D, hown, hat, hhas, hsz, hd⟩ := h
  obtain ⟨w', hrun, r1, r2⟩ := hown.store law9 Tryd.underlying80 (by rw [hsz]; unfold maxLen; omega) (WideMaps.keyOf_string_mk (s := k) Tryd.underlying9 (by unfold maxLen; omega)) (val := .pointer (some (at0 b))) (d := .lit (.int .i64 b)) (ps := []) rfl
  exact ⟨w', hrun, NMap.stored hat hhas hsz hd (hown.tidy law9) r1, (Keep.refl _ _).grown r2.grown (fun k hk => by cases hk; exact Or.inl (by simp))⟩

/-- a new node is made and entered -/
theorem Mem.created {w wA w' : World} {ms : List NdM} {s : Md.St} (h : Mem w ms s) (hl : Leads s) {q mq : Nat} {yq x : NdM} {qd nd : Md.Nd} {nm : ByteArray} (hy : ms[q]? = some yq) (hq : s[q]? = some qd) (hm : yq.m = some mq) (kA : Keep [] w wA) (hf : ∀ j ∈ x.fp, w.heap.size ≤ j) (he : nd.ents = []) (ha : NdAt wA (blkOf ms) x nd)
    (k : Keep [mq] wA w') (N : NMap w' mq (Md.put (bents (blkOf ms) qd.ents) nm x.b)) : Mem w' (ms ++ [x]) (Md.enter (s ++ [nd]) q nm s.length) := by
  have r := h.push hl kA hf he ha
  have hqs : q < s.length := (List.getElem?_eq_some_iff.1 hq).1
  have hqm : q < ms.length := by rw [h.len]; exact hqs
  have hy' : (ms ++ [x])[q]? = some yq := by rw [List.getElem?_append_left hqm]; exact hy
  have hq' : (s ++ [nd])[q]? = some qd := by rw [List.getElem?_append_left hqs]; exact hq
  have e1 : bents (blkOf ms) qd.ents = bents (blkOf (ms ++ [x])) qd.ents := bents_congr (fun p hp => (blkOf_push x (by rw [h.len]; exact hl q qd hq p hp)).symm)
  have e2 : x.b = blkOf (ms ++ [x]) s.length := by unfold blkOf; rw [← h.len, List.getElem?_append_right (Nat.le_refl _)]; simp
  rw [e1, e2, ← bents_put] at N
  have r2 := r.entered hy' hq' hm k N
  have e3 : Md.enter (s ++ [nd]) q nm s.length = Md.setNd (s ++ [nd]) q fun nd' => { nd' with ents := Md.put qd.ents nm s.length } := by
    unfold Md.enter
    rw [Md.setNd_set hq', Md.setNd_set hq']
  rw [e3]
  exact r2

theorem fps_push (ms : List NdM) (x : NdM) : fps (ms ++ [x]) = fps ms ++ x.fp := by simp [fps]

/-- a new node is made and entered: what is told -/
theorem created_out {w W wA w5 : World} {mb : Nat} {ms : List NdM} {s : Md.St} (h : IsM W mb ms s) (KW : Keep [] w W) (k : Ok s) {q mq : Nat} {yq x : NdM} {qd nd : Md.Nd} {nm : ByteArray} (hy : ms[q]? = some yq) (hq : s[q]? = some qd) (hm : yq.m = some mq) (kA : Keep [] W wA) (hf : ∀ j ∈ x.fp, W.heap.size ≤ j) (he : nd.ents = []) (ha : NdAt wA (blkOf ms) x nd)
    (k5 : Keep [mq] wA w5) (N : NMap w5 mq (Md.put (bents (blkOf ms) qd.ents) nm x.b)) : DoneOut mb ms (Md.enter (s ++ [nd]) q nm s.length, 0) w w5 (.returned (.int .i64 0)) := by
  have r := h.mem.created k.leads hy hq hm kA hf he ha k5 N
  have hmf : mq ∈ fps ms := mem_fps.2 ⟨q, yq, hy, by simp [NdM.fp, hm]⟩
  have hmb : mb < W.heap.size := h.blk.lt
  have hb0 : blkOf (ms ++ [x]) 0 = blkOf ms 0 := blkOf_push x (by rw [h.mem.len]; exact k.pos)
  have K5 : Keep [mq] W w5 := (kA.mono (by simp)).trans k5 (fun x hx => Or.inl hx)
  refine ⟨ms ++ [x], rfl, ⟨?_, r, ?_, ?_⟩, ?_, ?_⟩
  · rw [hb0]
    exact h.blk.keep K5 (fun e => h.out (by simp at e; rw [e]; exact hmf))
  · show 0 < (Md.enter (s ++ [nd]) q nm s.length).length
    unfold Md.enter Md.setNd
    simp
  · rw [fps_push]
    intro e
    rcases List.mem_append.1 e with e | e
    · exact h.out e
    · have := hf mb e; omega
  · exact ((KW.mono (G := [mq]) (by simp)).trans K5 (fun x hx => Or.inl hx)).mono (fun x hx => by simp at hx; subst hx; exact Or.inl hmf)
  · intro j hj
    rw [fps_push] at hj
    rcases List.mem_append.1 hj with e | e
    · exact Or.inl e
    · exact Or.inr (Nat.le_trans KW.size (hf j e))
end Go.Proofs.YtbmbjedpeepnfaaDoor
