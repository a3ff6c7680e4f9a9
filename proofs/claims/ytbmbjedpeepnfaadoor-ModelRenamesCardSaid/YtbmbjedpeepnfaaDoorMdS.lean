/-
  Package model: list: a directory's names, sorted. No condition but that the op was cut, that the nodes lie in memory, and that a directory has not too many entries.
-/
import Derived.Test.YtbmbjedpeepnfaaDoorMdE
import Derived.Test.YtbmbjedpeepnfaaDoorMdF
import Derived.Test.YtbmbjedpeepnfaaDoorMdPa
import Derived.Test.YtbmbjedpeepnfaaDoorShelfB
import Derived.Shelf.AbstractIn
import Derived.OwnWalkIn
namespace Go.Proofs.YtbmbjedpeepnfaaDoor
open Go.RowKit Go.Maps Go.Sort Go.Shelf

theorem sorts85 (m : Nat) : AnyZ.SortsIn Tryd.prog Tryd.sorted68_ren Fence.wide m :=
  ⟨fun blk off cap ss W hH hblk hsz => callsIn_wide.2 (AnyM.slices_Sort_string Tryd.sort85 blk off cap ss W hH hblk hsz),
   fun p cap W => callsIn_wide.2 (AnyM.slices_Sort_string_none Tryd.sort85 p cap W)⟩

theorem keys_any (m : Nat) (W : World) : Calls Tryd.prog 69 #[.map (some m)] W fun e w' => e = .returned (.func (.func 86) #[] #[.pointer (some ⟨W.heap.size, 0, none⟩)]) ∧ w' = W.alloc (.cells #[.map (some m)] 80) :=
  callsIn_wide.1 (AnyZ.keys_in Tryd.keys69 Fence.wide 5 trivial rfl (some m) W)

set_option maxHeartbeats 1000000 in
theorem sortedk_any {H : Type} (b nn : Nat) (D0 : DataW H) (R : Value → Option (DataW H × List MemPlace)) (w : World) (hown : w.ownsMap Tryd.prog 9 R b nn D0) (hmax : Maps.size D0 ≤ maxLen) (hbytes : Maps.size D0 * 16 ≤ 140737488355328) :
    Calls Tryd.prog 68 #[.func (.func 86) #[] #[.pointer (some ⟨w.heap.size, 0, none⟩)]] (w.alloc (.cells #[.map (some b)] 80)) fun e w' => ∃ (v : Value) (ss : List (List UInt8)), e = .returned v ∧ ss.Perm (strKeys D0) ∧
      w'.ownsRow (w.alloc (.cells #[.map (some b)] 80)).heap.size 9 1 v ss.length ((ss.mergeSort (fun x y => decide (x ≤ y))).map encStr) ∧ (v = .slice none 0 0 ↔ ss = []) ∧ Below (w.alloc (.cells #[.map (some b)] 80)).heap.size (w.alloc (.cells #[.map (some b)] 80)) w' := by
  refine (callsIn_wide (n := 5)).1 ?_
  have hbl := hown.lt
  have hseq : SeqGives Fence.wide 2 Tryd.prog 86 #[.pointer (some ⟨w.heap.size, 0, none⟩)] encStr (fun ss => ss.Perm (strKeys D0)) (Maps.size D0) (w.alloc (.cells #[.map (some b)] 80)) :=
    AnyZ.keys_gives (ρ := Tryd.keys69_ren) { Tryd.keys69 with } Fence.wide _ trivial rfl (by omega) w.heap.size b nn D0 _ (by simp) (by simp) (by
      obtain ⟨es, clock, hb, Ft, hs, hD⟩ := hown
      exact ⟨es, clock, (Below.heap_alloc _ _ b hbl).trans hb, Ft, hs, hD⟩)
  exact AnyZ.sorted_in Tryd.sorted68 Fence.wide 5 trivial trivial trivial trivial rfl (by omega) (sorts85 _) (enters_of Tryd.func85 (by kernel_rfl) rfl) 86 #[.pointer (some ⟨w.heap.size, 0, none⟩)] trivial (enters_of Tryd.func86 (by kernel_rfl) rfl) _ _ hmax hbytes _ hseq

theorem keyStr {v : Value} {kl : Lit} (h : keyOf Tryd.prog 9 v = some kl) : ∃ x, kl = .string x := by
  obtain ⟨x, _, hx, _⟩ := Maps.keyOf_str Tryd.underlying9 h
  exact ⟨x, hx⟩

/-- the keys of a directory's map, sorted, are its names -/
theorem sorted_is {w : World} {m nn : Nat} {l : List (ByteArray × Nat)} {D : DataW Unit} (hown : w.ownsMap Tryd.prog 9 ptrElem m nn D) (hhas : ∀ k : ByteArray, Maps.has D (.string k.data.toList) = (Md.look l k).isSome) (d : Md.Dk l) {ss : List (List UInt8)} (hS : ss.Perm (strKeys D)) :
    (ss.mergeSort (fun x y => decide (x ≤ y))).map encStr = (Md.names l).map Value.string ∧ ss.length = l.length := by
  have hp : (l.map fun p => p.1.data.toList).Perm (strKeys D) := by
    obtain ⟨es, hD, hpw, _⟩ := hown.entries law9
    obtain ⟨es', hD', hko⟩ := hown.keysOf
    obtain rfl : es = es' := by rw [hD] at hD'; simpa using hD'
    subst hD
    refine perm_strKeys hpw (fun p hp => by obtain ⟨v, hv⟩ := hko p hp; exact keyStr hv) ?_ (fun x => ?_)
    · exact List.pairwise_map.2 (d.imp (fun h e => h (Md.data_inj e)))
    · have hx := hhas ⟨x.toArray⟩
      simp only at hx
      rw [hx]
      constructor
      · intro h
        obtain ⟨p, hp, rfl⟩ := List.mem_map.1 h
        have : Md.look l p.1 = some p.2 := Md.look_of_mem d hp
        have e : (⟨p.1.data.toList.toArray⟩ : ByteArray) = p.1 := by cases p.1; simp
        rw [e, this]
        rfl
      · intro h
        obtain ⟨v, hv⟩ := Option.isSome_iff_exists.1 h
        exact List.mem_map.2 ⟨_, Md.look_mem hv, by simp⟩
  have e1 : ss.mergeSort (fun x y => decide (x ≤ y)) = (l.map fun p => p.1.data.toList).mergeSort leB := mergeSort_of_perm (hS.trans hp.symm)
  have e2 : ((l.map (·.1)).mergeSort Md.leS).map (fun k => k.data.toList) = ((l.map (·.1)).map (fun k => k.data.toList)).mergeSort leB :=
    List.map_mergeSort (fun a _ b _ => by rw [Md.leS_le])
  rw [List.map_map] at e2
  refine ⟨?_, ?_⟩
  · rw [e1]
    have e3 : (l.map fun p => p.1.data.toList) = l.map ((fun k => k.data.toList) ∘ fun x => x.1) := rfl
    rw [e3, ← e2, List.map_map]
    unfold Md.names
    refine List.map_congr_left (fun k _ => ?_)
    simp [encStr]
  · rw [(hS.trans hp.symm).length_eq, List.length_map]

/-- a directory's names are told -/
theorem names_any (m : Nat) (l : List (ByteArray × Nat)) (w : World) (N : NMap w m l) (hl : l.length < 1000000) :
    Calls Tryd.prog 68 #[.func (.func 86) #[] #[.pointer (some ⟨w.heap.size, 0, none⟩)]] (w.alloc (.cells #[.map (some m)] 80)) fun e w' => ∃ ao c, e = .returned (.slice ao l.length c) ∧ w'.ownsRow w.heap.size 9 1 (.slice ao l.length c) l.length ((Md.names l).map Value.string) ∧ Keep [] w w' := by
  obtain ⟨D, hown, hat, hhas, hsz, hd⟩ := N
  refine (sortedk_any m _ D _ w hown (by rw [hsz]; unfold maxLen; omega) (by rw [hsz]; omega)).mono ?_
  rintro e w' ⟨v, ss, rfl, hS, hrow, _, hb⟩
  obtain ⟨e1, e2⟩ := sorted_is hown hhas hd hS
  rw [e1, e2] at hrow
  have hv : ∃ ao c, v = .slice ao l.length c := by
    rcases hrow.2 with ⟨h1, h2⟩ | ⟨g, cap, cur, h1, _⟩
    · exact ⟨none, 0, by rw [h1, h2]⟩
    · exact ⟨_, cap, h1⟩
  obtain ⟨ao, c, rfl⟩ := hv
  exact ⟨ao, c, rfl, ownsRow_base_a hrow (by simp), ((Keep.refl [] w).alloc _).trans (Keep.ofBelow hb) (by simp)⟩
end Go.Proofs.YtbmbjedpeepnfaaDoor
