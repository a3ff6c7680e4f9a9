/-
  A file's bytes in memory: lengthened by noughts, written over from a place on, cut; and the file system behind that. No condition.
-/
import Derived.Test.YtbmbjedpeepnfaaDoorMdRd
import Derived.Test.YtbmbjedpeepnfaaDoorMdH
import Derived.Lib.BufferWrite
namespace Go.Proofs.YtbmbjedpeepnfaaDoor
open Go.RowKit

theorem DRow.len_cap {w : World} {v : Value} {xs : List UInt8} (h : DRow w v xs) (hs : xs.length ≤ maxLen) :
    (xs = [] ∧ v = .slice none 0 0) ∨ ∃ g cap cur, v = .slice (some ⟨g, 0, none⟩) xs.length cap ∧ xs.length ≤ cap ∧ cap ≤ maxLen ∧ w.heap[g]? = some (.cells cur 5 (0, 0)) ∧ xs.length ≤ cur.size ∧ cur.toList.take xs.length = bv xs ∧
      ∀ (w' : World) (cur' : Array Value) (ys : List UInt8), ys.length = xs.length → w'.heap[g]? = some (.cells cur' 5 (0, 0)) → cur'.size = cur.size → cur'.toList.take xs.length = bv ys → DRow w' v ys := by
  rcases h with h | ⟨g, cur, rfl, h2, h3, h4⟩
  · rcases h.2 with ⟨h1, h0⟩ | ⟨g, cap, cur, rfl, hb, hg, hc, hm, hs', ht⟩
    · exact Or.inl ⟨List.eq_nil_of_length_eq_zero h0, h1⟩
    · have hs2 : cur.size = cap := by simpa using hs'
      have ht2 : cur.toList.take xs.length = bv xs := by simpa using ht
      refine Or.inr ⟨g, cap, cur, rfl, hc, hm, hg, by omega, ht2, fun w' cur' ys hl hg' hcs ht' => Or.inl ⟨by simp [bv], Or.inr ⟨g, cap, cur', by rw [hl], hb, hg', by rw [hl]; exact hc, hm, by simpa using hcs.trans hs2, ?_⟩⟩⟩
      rw [hl]; simpa using ht'
  · exact Or.inr ⟨g, xs.length, cur, rfl, Nat.le_refl _, hs, h2, h3, h4, fun w' cur' ys hl hg' hcs ht' => Or.inr ⟨g, cur', by rw [hl], hg', by omega, by rw [hl]; exact ht'⟩⟩

theorem infoB : (Tryd.prog.info? 5).map (fun i => (i.zero, i.size, i.bytes)) = some (some (.int .u8 0), 1, 1) := by kernel_rfl

theorem bv_append (a b : List UInt8) : bv (a ++ b) = bv a ++ bv b := List.map_append
theorem bv_zeros (k : Nat) : bv (List.replicate k 0) = List.replicate k (Value.int .u8 0) := by simp [bv]

/-- so many noughts behind a file's bytes -/
theorem DRow.zeros {w : World} {v : Value} {xs : List UInt8} (h : DRow w v xs) (k : Nat) (hk : 0 < k) (hs : xs.length + k ≤ 1048576) (ty : TypeId) :
    ∃ v' w', (Builtin.append_ #[48, 3] ty #[v, .int .i64 k]).run Tryd.prog w = .ok v' w' ∧ DRow w' v' (xs ++ List.replicate k 0) ∧ w.grownBy w' v.ownBlock ∧ (∀ j ∈ rowOf v', j ∈ rowOf v ∨ w.heap.size ≤ j) ∧ ∃ ao c, v' = .slice ao (xs.length + k) c := by
  obtain ⟨i0, hi, hz0, hz1, hz2⟩ := info_parts infoB
  rcases h with h | ⟨g, cur, rfl, h2, h3, h4⟩
  · obtain ⟨v', w', hr, ho⟩ := run_app_zeros (P := Tryd.prog) w 48 3 ty 5 i0 .i64 .i64 Tryd.underlying48 Tryd.underlying3 hi hz0 hz1 hz2 v xs.length (bv xs) h k (by unfold maxLen; omega) (by omega)
    refine ⟨v', w', hr, Or.inl ?_, ho.2.1, ho.2.2, ho.slice⟩
    have := ho.1
    rw [← bv_zeros, ← bv_append] at this
    simpa using this
  · have hxl : (bv xs).length = xs.length := by simp [bv]
    have holds : ∀ j u, (bv xs)[j]? = some u → w.drew.cell? ((⟨g, 0, none⟩ : Addr).add j) = some u := fun j u hu => by
      have hj : j < xs.length := by have := (List.getElem?_eq_some_iff.1 hu).1; omega
      rw [← h4, List.getElem?_take, if_pos hj] at hu
      have hc := cell_of_row w g j cur 5 (0, 0) h2
      have ea : (⟨g, 0, none⟩ : Addr).add j = ⟨g, j, none⟩ := by
        unfold Addr.add
        by_cases e : j = 0
        · subst e; rfl
        · rw [if_neg e]; simp
      rw [ea]
      show w.cell? _ = _
      rw [hc]
      simpa using hu
    have hfo := run_firstCells_some (P := Tryd.prog) w.drew 1 xs.length ⟨g, 0, none⟩ xs.length xs.length (bv xs) (by omega) holds
    have hr := Lib.run_append_grow_zeros (P := Tryd.prog) w 48 3 ty 5 i0 (.int .u8 0) .i64 .i64 Tryd.underlying48 Tryd.underlying3 hi hz0 (some ⟨g, 0, none⟩) xs.length xs.length (bv xs) (by rw [hz1]; exact hfo) k hk (by omega) (by omega) (by omega) (by rw [hz2]; omega) (by rw [hz2]; exact growslice_fits (by omega) (by omega))
    have hge := grownCap_ge w (xs.length + k) xs.length 5
    have hcm : grownCap w (xs.length + k) xs.length 5 ≤ maxLen := grownCap_le_maxLen w _ _ 5 (by unfold maxLen; omega)
    have hzl := fun m => zeroCells_toList (.int .u8 0) rfl m
    have hza : ∀ m, Builtin.zeroCells (Value.int .u8 0).cells m = (List.replicate m (Value.int .u8 0)).toArray := fun m => by apply Array.ext'; rw [hzl]
    refine ⟨_, _, hr, Or.inl ⟨by simp [bv], .inr ⟨w.heap.size, _, _, by simp, Nat.zero_le _, heap_alloc_new w.drew _, by simpa using hge, hcm, ?_, ?_⟩⟩, ⟨rfl, rfl, rfl, by simp, fun j hj _ => Below.heap_alloc w.drew _ j hj⟩, fun j hj => Or.inr (by simp [rowOf, Value.ownBlock] at hj; omega), ⟨_, _, rfl⟩⟩
    · rw [hza, hza]; simp only [Array.size_append, List.size_toArray, List.length_replicate, hxl]; omega
    · rw [hza, hza]; simp only [Array.toList_append]
      rw [bv_append, bv_zeros]
      have hl : ((bv xs) ++ List.replicate k (Value.int .u8 0)).length = (xs ++ List.replicate k (0 : UInt8)).length * 1 := by simp [bv]
      rw [← hl]
      exact List.take_left

/-- written over from a place on -/
theorem DRow.over {w : World} {v : Value} {xs : List UInt8} (h : DRow w v xs) (o : Nat) (t : ByteArray) (ht : 0 < t.size) (ho : o + t.size ≤ xs.length) (hs : xs.length ≤ maxLen) (ty : TypeId) :
    ∃ g cap w', v = .slice (some ⟨g, 0, none⟩) xs.length cap ∧ ¬ (cap - o = 0) ∧ o ≤ cap ∧ xs.length ≤ cap ∧ (Builtin.copy_ #[48, 9] ty #[.slice (some ⟨g, o, none⟩) (xs.length - o) (cap - o), .string t]).run Tryd.prog w = .ok (goInt t.size) w' ∧ DRow w' v (Md.over xs o t.data.toList) ∧ Keep [g] w w' := by
  have hts : t.data.toList.length = t.size := rfl
  rcases h.len_cap hs with ⟨rfl, _⟩ | ⟨g, cap, cur, rfl, hc, hm, hg, hcs, htk, hre⟩
  · simp only [List.length_nil] at ho; omega
  · obtain ⟨i0, hi, _, hz1, _⟩ := info_parts infoB
    have hr := Lib.run_copy_row_string (P := Tryd.prog) w 48 9 ty 5 g o (xs.length - o) (cap - o) t cur 5 Tryd.underlying48 (by rw [hi, ← hz1]; rfl) hg (by omega) (by omega)
    refine ⟨g, cap, _, rfl, by omega, by omega, hc, hr, hre _ (cur.toList.take o ++ Lib.byteCells t.data.toList ++ cur.toList.drop (o + t.size)).toArray _ ?_ (setRow_heap w g cur _ 5 _ hg) ?_ ?_, ?_⟩
    · unfold Md.over; simp; omega
    · simp [Lib.byteCells_length]; omega
    · have hcl : cur.toList.length = cur.size := Array.length_toList
      have e : Lib.byteCells t.data.toList = bv t.data.toList := rfl
      rw [e]
      unfold Md.over
      rw [bv_append, bv_append]
      have h1 : bv (xs.take o) = cur.toList.take o := by
        have : bv (xs.take o) = (bv xs).take o := by simp [bv]
        rw [this, ← htk, List.take_take, Nat.min_eq_left (by omega)]
      have h2 : bv (xs.drop (o + t.data.toList.length)) = (cur.toList.drop (o + t.size)).take (xs.length - (o + t.size)) := by
        have : bv (xs.drop (o + t.data.toList.length)) = (bv xs).drop (o + t.data.toList.length) := by simp [bv]
        rw [this, ← htk, hts, List.drop_take]
      rw [h1, h2]
      have hb : (bv t.data.toList).length = t.size := by simp [bv]
      have hl : (cur.toList.take o ++ bv t.data.toList).length = o + t.size := by rw [List.length_append, List.length_take, hb]; omega
      rw [List.take_append, hl, List.take_of_length_le (by rw [hl]; omega)]
    · exact (Keep.refl _ _).grown (row := some g) ⟨rfl, rfl, rfl, by simp, fun k _ hk => setRow_other w g k _ (fun e => hk (by simp [e]))⟩ (fun k hk => by injection hk with hk; subst hk; exact Or.inl (by simp))

/-- a file's bytes, cut -/
theorem DRow.cut {w : World} {ao : Option Addr} {c : Nat} {xs : List UInt8} (h : DRow w (.slice ao xs.length c) xs) (n : Nat) (hn : n ≤ xs.length) (hs : xs.length ≤ maxLen) : DRow w (.slice ao n n) (xs.take n) := by
  have hl : (xs.take n).length = n := by simp; omega
  rcases h.len_cap hs with ⟨rfl, e⟩ | ⟨g, cap, cur, e, _, _, hg, hcs, htk, _⟩
  · simp at hn
    subst hn
    injection e with e1 _ _
    subst e1
    exact DRow.nil w
  · injection e with e1 _ e3
    subst e1
    refine Or.inr ⟨g, cur, by rw [hl], hg, by omega, ?_⟩
    have : bv (xs.take n) = (bv xs).take n := by simp [bv]
    rw [hl, this, ← htk, List.take_take, Nat.min_eq_left hn]

/-- a file's bytes changed, in their own row or in a new one -/
theorem Mem.dataSet {F : List Nat} {w w' : World} {ms : List NdM} {s : Md.St} (h : Mem w ms s) {i : Nat} {x : NdM} {nd : Md.Nd} (hx : ms[i]? = some x) (hn : s[i]? = some nd) (k : Keep F w w') (hF : ∀ j ∈ F, j = x.b ∨ j ∈ rowOf x.dv ∨ w.heap.size ≤ j)
    {dv' : Value} {xs' : List UInt8} (B : Blk w' x.b [.map x.m, dv', .int .i64 nd.links] 82) (D : DRow w' dv' xs') (hr : ∀ j ∈ rowOf dv', j ∈ rowOf x.dv ∨ w.heap.size ≤ j) :
    Mem w' (ms.set i { x with dv := dv' }) (Md.setNd s i fun nd => { nd with data := xs' }) := by
  have hN := h.at' i x nd hx hn
  have hlt := hN.lt
  have hbl : x.b < w.heap.size := hN.blk.lt
  rw [Md.setNd_set hn]
  refine h.set (F := F) hx k (fun j hj => ?_) rfl (fun j hj => ?_) ⟨B, D, ?_, ?_⟩
  · rcases hF j hj with rfl | e | e
    · exact Or.inl (by simp [NdM.fp])
    · exact Or.inl (by simp [NdM.fp, e])
    · exact Or.inr e
  · rcases List.mem_cons.1 hj with rfl | hj
    · exact Or.inl (by simp [NdM.fp])
    · rcases List.mem_append.1 hj with hj | hj
      · exact Or.inl (by simp [NdM.fp] at hj ⊢; exact Or.inr (Or.inl hj))
      · rcases hr j hj with e | e
        · exact Or.inl (by simp [NdM.fp, e])
        · exact Or.inr e
  · rcases hN.ents with e | ⟨m, e1, e2, e3⟩
    · exact Or.inl e
    · refine Or.inr ⟨m, e1, e2, e3.keep k (fun hm => ?_)⟩
      rcases hF m hm with e | e | e
      · exact hN.apart.1 (by rw [← e, e1]; simp)
      · exact hN.apart.2 m (by rw [e1]; simp) e
      · have := e3.lt; omega
  · refine ⟨fun e => ?_, fun q hq e => ?_⟩
    · rcases List.mem_append.1 e with e | e
      · exact hN.apart.1 (List.mem_append.2 (Or.inl e))
      · rcases hr _ e with e | e
        · exact hN.apart.1 (List.mem_append.2 (Or.inr e))
        · have : x.b < w.heap.size := hbl
          have e' : w.heap.size ≤ x.b := e
          omega
    · rcases hr q e with e | e
      · exact hN.apart.2 q hq e
      · have := hlt q (by simp [NdM.fp]; simp at hq; exact Or.inr (Or.inl hq)); omega
end Go.Proofs.YtbmbjedpeepnfaaDoor
