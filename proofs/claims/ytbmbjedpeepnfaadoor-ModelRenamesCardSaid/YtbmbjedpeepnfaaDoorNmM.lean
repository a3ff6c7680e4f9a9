/-
  Two rows of texts that are the same; a row of texts among a law's arguments. No condition but that a row is not too long.
-/
import Derived.Test.YtbmbjedpeepnfaaDoorNmK
import Derived.Test.YtbmbjedpeepnfaaDoorNmLaw
import Derived.SliceStrings
import Derived.Deep.DeepHandedRow
namespace Go.Proofs.YtbmbjedpeepnfaaDoor
open Go.RowKit Go.ChangeShapes Go.WideShapes

set_option maxRecDepth 100000 in
set_option maxHeartbeats 1600000 in
theorem same_any (aa ab : Option Addr) (l : List ByteArray) (c d : Nat) (w : World) (Sa : StrsP w aa l) (Sb : StrsP w ab l) (hl : l.length ≤ 1000) :
    Calls Tryd.prog 34 #[.slice aa l.length c, .slice ab l.length d] w fun e w' => e = .returned (.bool true) ∧ Keep [] w w' := by
  by_cases h0 : l = []
  · subst h0
    clear Sa Sb
    go_enter Tryd.func34, Tryd.ntmps34
    go_wp2_with fail
    go_loopw [5] (fun i wr => i = .int .i64 0 ∧ Keep [] w wr) (fun i _ => 0)
    case atStart => exact ⟨rfl, Keep.refl _ _⟩
    case round =>
      obtain ⟨rfl, K⟩ := hrel
      go_wp2
      go_ret
      exact ⟨rfl, K⟩
  · rcases Sa with h | ⟨ba, oa, rfl, hba, Ca⟩
    · exact absurd h h0
    rcases Sb with h | ⟨bb, ob, rfl, hbb, Cb⟩
    · exact absurd h h0
    have CA := Lib.hid Ca
    have CB := Lib.hid Cb
    clear Ca Cb
    go_enter Tryd.func34, Tryd.ntmps34
    go_wp2_with fail
    go_loopw [5] (fun i wr => ∃ k : Nat, i = .int .i64 k ∧ k ≤ l.length ∧ Keep [] w wr) (fun i _ => l.length - (intOf i).toNat)
    case atStart => exact ⟨0, rfl, Nat.zero_le _, Keep.refl _ _⟩
    case round =>
      obtain ⟨k, rfl, hk, K⟩ := hrel
      by_cases hlt : k < l.length
      · obtain ⟨x, hxk⟩ : ∃ x, l[k]? = some x := ⟨_, List.getElem?_eq_getElem hlt⟩
        have ca : wr.cell? ⟨ba, oa + k, none⟩ = some (.string x) := by rw [K.cell (by exact hba) (by simp)]; exact CA.out k x hxk
        have cb : wr.cell? ⟨bb, ob + k, none⟩ = some (.string x) := by rw [K.cell (by exact hbb) (by simp)]; exact CB.out k x hxk
        clear hxk
        go_wp2_with fail
        go_region
        go_wp2
        go_roundw
        case rel => exact ⟨k + 1, by go_num, by omega, K.drew⟩
        case measure => simp [intOf]; omega
      · go_wp2
        go_ret
        exact ⟨rfl, K⟩

/-- a list of texts among the arguments -/
theorem open_names {H : Type} {enc : TypeId × Value → H} {P : Program} {t e : TypeId} (ht : P.underlying t = some (.slice e)) (he : P.underlying e = some .string) (hc : P.cellsOf e = 1) {W : World} {base : Nat} {v : Value} {d : DataW H} {p : List MemPlace}
    (hval : Value.okWide P W .any base t v) (h : DataW.Trod enc P W 0 (fun _ => true) true t v d p) :
    ∃ (ao : Option Addr) (l : List ByteArray) (c : Nat), v = .slice ao l.length c ∧ l.length ≤ c ∧ c ≤ 9223372036854775807 ∧ (ao = none → l = [] ∧ c = 0) ∧ StrsP W ao l ∧ ((d = .nil ∧ l = []) ∨ ∃ sp, d = .slice (strs l) sp) := by
  obtain ⟨a0, len, cap, rfl⟩ := okWide_slice ht hval
  obtain ⟨fuel, hf⟩ := h
  rcases open_strings ht he hc hf with ⟨hcs, hx⟩ | ⟨a, len', cap', ss, hcs, _, hl, hm, hz, hx, hcell, _⟩
  · simp [Value.cells] at hcs
    obtain ⟨rfl, rfl, rfl⟩ := hcs
    exact ⟨none, [], 0, rfl, Nat.le_refl _, by omega, fun _ => ⟨rfl, rfl⟩, Or.inl rfl, Or.inl ⟨congrArg Prod.fst hx, rfl⟩⟩
  · simp [Value.cells] at hcs
    obtain ⟨rfl, rfl, rfl⟩ := hcs
    simp only [if_true] at hz
    unfold maxLen at hm
    have hlen : (ss.take len).length = len := by rw [List.length_take]; omega
    refine ⟨some a, ss.take len, cap, by rw [hlen], by rw [hlen]; exact hl, by omega, (fun h => by cases h), ?_, Or.inr ⟨_, congrArg Prod.fst hx⟩⟩
    by_cases h0 : ss.take len = []
    · exact Or.inl h0
    · have hpos : 0 < len := by
        rcases Nat.eq_zero_or_pos len with h | h
        · exact absurd (by rw [h]; rfl) h0
        · exact h
      have c0 := hcell 0 (by omega)
      have hsp := World.cell?_spot c0
      have hb := World.block_lt_of_cell? W _ c0
      rw [show a.add 0 = a from rfl] at hsp hb
      refine Or.inr ⟨a.block, a.off, by cases a; simp at hsp; rw [hsp], hb, fun j x hj => ?_⟩
      rw [List.getElem?_take] at hj
      split at hj
      · have hjl := (List.getElem?_eq_some_iff.1 hj).1
        have := hcell j hjl
        have e1 : a.add j = ⟨a.block, a.off + j, none⟩ := by
          unfold Addr.add
          split
          · rename_i hj0; subst hj0; cases a; simp at hsp; rw [hsp]; rfl
          · rfl
        rw [e1, List.getD, hj] at this
        exact this
      · cases hj

theorem jl_len (l : List ByteArray) : (Nm.jl l).length ≤ (l.map (fun x => x.size + 1)).sum := by
  unfold Nm.jl
  cases l with
  | nil => simp [Lib.join_nil]
  | cons x l =>
    rw [List.map_cons, Lib.join_cons, List.length_append, Lib.joinTail_length, Nm.data_size]
    have : ∀ m : List ByteArray, [(47 : UInt8)].length * (m.map (·.data.toList)).length + Lib.lens (m.map (·.data.toList)) ≤ (m.map (fun x => x.size + 1)).sum := by
      intro m
      induction m with
      | nil => simp [Lib.lens]
      | cons y m ih =>
        simp only [Lib.lens, List.map_cons, List.sum_cons, List.length_cons, List.length_nil, List.map_map, List.length_map] at ih ⊢
        have := Nm.data_size y
        simp only [Function.comp_def] at ih ⊢
        omega
    have := this l
    simp only [List.map_cons, List.sum_cons]
    omega

theorem sum_take (l : List ByteArray) (k : Nat) : ((l.take k).map (fun x => x.size + 1)).sum ≤ (l.map (fun x => x.size + 1)).sum := by
  conv => rhs; rw [← List.take_append_drop k l, List.map_append, List.sum_append]
  omega

/-- what the bound says of a list of texts -/
theorem bulk_strs {H : Type} (l : List ByteArray) : (l.map (fun x => x.size + 1)).sum ≤ Rows.uptoBulkAll (strs (H := H) l) := by
  induction l with
  | nil => simp
  | cons x l ih =>
    have e : strs (H := H) (x :: l) = .lit (.string x.data.toList) :: strs l := rfl
    rw [e]
    simp only [Rows.uptoBulkAll, List.map_cons, List.sum_cons, Rows.uptoBulk]
    have := Nm.data_size x
    omega

theorem jl_bound {H : Type} {l : List ByteArray} {d : DataW H} (hd : (d = .nil ∧ l = []) ∨ ∃ sp, d = .slice (strs l) sp) (hb : Rows.uptoBulk d ≤ 1048576) (k : Nat) : (Nm.jl (l.take k)).length ≤ 1048576 := by
  have h1 := jl_len (l.take k)
  have h2 := sum_take l k
  rcases hd with ⟨_, rfl⟩ | ⟨sp, rfl⟩
  · rw [List.take_nil, Nm.jl_nil]; simp
  · have h3 := bulk_strs (H := H) l
    simp only [Rows.uptoBulk] at hb
    omega
end Go.Proofs.YtbmbjedpeepnfaaDoor
