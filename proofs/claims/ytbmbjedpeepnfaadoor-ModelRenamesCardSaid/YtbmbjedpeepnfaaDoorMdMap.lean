/-
  A directory's entries in memory: a map from names to nodes; look-up, store, delete, length. No condition.
-/
import Derived.Test.YtbmbjedpeepnfaaDoorMdPlain
import Derived.Maps.OwnSet
import Derived.Maps.OwnOps
import Derived.StringKeys
namespace Go.Proofs.YtbmbjedpeepnfaaDoor
open Go.RowKit Go.Maps

theorem law9 : Keyed Tryd.prog 9 := string_keyed Tryd.underlying9
theorem zeroN (w : World) : (zeroValue 61).run Tryd.prog w = .ok (.pointer none) w := by kernel_rfl

/-- a node's place -/
abbrev at0 (b : Nat) : Addr := ⟨b, 0, none⟩
/-- how an element reads: as its block -/
def ptrElem : Value → Option (DataW Unit × List MemPlace)
  | .pointer none => some (.nil, [])
  | .pointer (some ⟨b, 0, none⟩) => some (.lit (.int .i64 b), [])
  | _ => none
def encP : Option Nat → DataW Unit
  | none => .nil
  | some b => .lit (.int .i64 b)

theorem ptrElem_inv {v : Value} {o : Option Nat} {ps : List MemPlace} (h : ptrElem v = some (encP o, ps)) : v = .pointer (o.map at0) := by
  unfold ptrElem at h
  split at h
  · simp only [Option.some.injEq, Prod.mk.injEq] at h
    cases o with
    | none => rfl
    | some b => exact absurd h.1 (by simp [encP])
  · rename_i b'
    simp only [Option.some.injEq, Prod.mk.injEq] at h
    cases o with
    | none => exact absurd h.1 (by simp [encP])
    | some b =>
      have e := h.1
      simp only [encP, DataW.lit.injEq, Lit.int.injEq, true_and] at e
      obtain rfl : b' = b := by omega
      rfl
  · cases h

namespace Md
/-- no name twice -/
def Dk (l : List (ByteArray × Nat)) : Prop := l.Pairwise (fun p q => p.1 ≠ q.1)

theorem look_del_same (l : List (ByteArray × Nat)) (k : ByteArray) : look (del l k) k = none := by
  induction l with
  | nil => rfl
  | cons p l ih =>
    unfold del at ih ⊢
    rw [List.filter_cons]
    by_cases h : p.1 = k
    · simpa [h] using ih
    · rw [if_pos (by simpa using h)]
      show (if p.1 = k then _ else _) = _
      rw [if_neg h]; exact ih

theorem look_del_other {l : List (ByteArray × Nat)} {k x : ByteArray} (h : x ≠ k) : look (del l k) x = look l x := by
  induction l with
  | nil => rfl
  | cons p l ih =>
    unfold del at ih ⊢
    rw [List.filter_cons]
    by_cases hp : p.1 = k
    · rw [if_neg (by simpa using hp), ih]
      show _ = if p.1 = x then _ else _
      rw [if_neg (fun e => h (by rw [← e, hp]))]
    · rw [if_pos (by simpa using hp)]
      show (if p.1 = x then _ else _) = if p.1 = x then _ else _
      rw [ih]

theorem look_put_same (l : List (ByteArray × Nat)) (k : ByteArray) (v : Nat) : look (put l k v) k = some v := by
  show (if k = k then _ else _) = _
  rw [if_pos rfl]

theorem look_put_other {l : List (ByteArray × Nat)} {k x : ByteArray} (v : Nat) (h : x ≠ k) : look (put l k v) x = look l x := by
  show (if k = x then _ else _) = _
  rw [if_neg (fun e => h e.symm)]
  exact look_del_other h

theorem look_none {l : List (ByteArray × Nat)} {k : ByteArray} : look l k = none ↔ ∀ p ∈ l, p.1 ≠ k := by
  induction l with
  | nil => simp [look]
  | cons p l ih =>
    show (if p.1 = k then _ else _) = none ↔ _
    by_cases h : p.1 = k
    · rw [if_pos h]
      simp [h]
    · rw [if_neg h, ih]
      simp [h]

theorem look_mem {l : List (ByteArray × Nat)} {k : ByteArray} {v : Nat} (h : look l k = some v) : (k, v) ∈ l := by
  induction l with
  | nil => cases h
  | cons p l ih =>
    have h2 : (if p.1 = k then some p.2 else look l k) = some v := h
    by_cases e : p.1 = k
    · rw [if_pos e] at h2
      injection h2 with h2
      subst h2 e
      exact List.mem_cons_self
    · rw [if_neg e] at h2
      exact List.mem_cons_of_mem _ (ih h2)

theorem look_of_mem {l : List (ByteArray × Nat)} (d : Dk l) {k : ByteArray} {v : Nat} (h : (k, v) ∈ l) : look l k = some v := by
  induction l with
  | nil => cases h
  | cons p l ih =>
    obtain ⟨d1, d2⟩ := List.pairwise_cons.1 d
    show (if p.1 = k then some p.2 else look l k) = some v
    rcases List.mem_cons.1 h with rfl | h
    · rw [if_pos rfl]
    · rw [if_neg (d1 _ h)]
      exact ih d2 h

theorem Dk.del {l : List (ByteArray × Nat)} (d : Dk l) (k : ByteArray) : Dk (del l k) := List.Pairwise.filter _ d
theorem Dk.put {l : List (ByteArray × Nat)} (d : Dk l) (k : ByteArray) (v : Nat) : Dk (put l k v) :=
  List.pairwise_cons.2 ⟨fun p hp => by have := (List.mem_filter.1 hp).2; simp only [decide_eq_true_eq] at this; exact fun e => this e.symm, d.del k⟩

theorem del_length {l : List (ByteArray × Nat)} (d : Dk l) (k : ByteArray) : (Md.del l k).length + (if (look l k).isSome then 1 else 0) = l.length := by
  induction l with
  | nil => rfl
  | cons p l ih =>
    obtain ⟨d1, d2⟩ := List.pairwise_cons.1 d
    have hl : look (p :: l) k = if p.1 = k then some p.2 else look l k := rfl
    have hd : Md.del (p :: l) k = if p.1 = k then Md.del l k else p :: Md.del l k := by
      unfold Md.del
      rw [List.filter_cons]
      by_cases h : p.1 = k <;> simp [h]
    rw [hl, hd]
    have ih := ih d2
    by_cases h : p.1 = k
    · have hn : look l k = none := look_none.2 (fun q hq => by rw [← h]; exact (d1 q hq).symm)
      rw [hn] at ih
      simp only [if_pos h, Option.isSome_some, if_true, List.length_cons]
      simp at ih
      omega
    · simp only [if_neg h, List.length_cons]
      omega

/-- a name is not longer than memory has room for -/
def Sz (l : List (ByteArray × Nat)) : Prop := ∀ p ∈ l, p.1.size ≤ 1000
end Md

/-- block m is a map whose entries are l -/
def NMap (w : World) (m : Nat) (l : List (ByteArray × Nat)) : Prop :=
  ∃ D : DataW Unit, w.ownsMap Tryd.prog 9 ptrElem m (Maps.size D) D ∧ (∀ k : ByteArray, D.atKey (.string k.data.toList) .nil = encP (Md.look l k)) ∧ (∀ k : ByteArray, Maps.has D (.string k.data.toList) = (Md.look l k).isSome) ∧
    Maps.size D = l.length ∧ Md.Dk l

theorem nown_tight {w : World} {b n : Nat} {D : DataW Unit} (h : w.ownsMap Tryd.prog 9 ptrElem b n D) : w.ownsMap Tryd.prog 9 ptrElem b (Maps.size D) D := by
  obtain ⟨es, clock, h1, h2, h3, h4⟩ := h
  refine ⟨es, clock, h1, h2, ?_, h4⟩
  rw [h4, size_eq, length_sorted]
  simp

theorem NMap.new (w : World) : NMap (w.alloc (.map #[] 0)) w.heap.size [] :=
  ⟨.map [], nown_tight (World.ownsMap_made w _ _ _), fun _ => rfl, fun _ => rfl, rfl, List.Pairwise.nil⟩

theorem NMap.lt {w : World} {m : Nat} {l : List (ByteArray × Nat)} (h : NMap w m l) : m < w.heap.size := by
  obtain ⟨D, h1, _⟩ := h
  exact h1.lt

theorem NMap.keep {F : List Nat} {w w' : World} {m : Nat} {l : List (ByteArray × Nat)} (h : NMap w m l) (k : Keep F w w') (hn : m ∉ F) : NMap w' m l := by
  obtain ⟨D, h1, h2⟩ := h
  refine ⟨D, ?_, h2⟩
  have hl := h1.lt
  obtain ⟨es, clock, e1, e2, e3, e4⟩ := h1
  exact ⟨es, clock, (k.block m hl hn).trans e1, e2, e3, e4⟩

theorem bytes_ne {k x : ByteArray} (h : x ≠ k) : (Lit.string x.data.toList) ≠ .string k.data.toList := fun e => by
  injection e with e
  refine h ?_
  have : x.data = k.data := by rw [← Array.toArray_toList (xs := x.data), e]
  cases x; cases k; exact congrArg _ this

theorem NMap.look {w : World} {m : Nat} {l : List (ByteArray × Nat)} (h : NMap w m l) {k : ByteArray} (hk : k.size ≤ 1000) :
    (Instr.lookup 80 (.map (some m)) (.string k) false).run Tryd.prog w = .ok (.pointer ((Md.look l k).map at0)) w := by
  obtain ⟨D, hown, hat, _⟩ := h
  obtain ⟨v, ps, hrun, hv⟩ := hown.lookup law9 Tryd.underlying80 (zeroN _) (zd := .nil) (zp := []) rfl (WideMaps.keyOf_string_mk (s := k) Tryd.underlying9 (by unfold maxLen; omega))
  rw [hat k] at hv
  rw [hrun, ptrElem_inv hv]

theorem NMap.stored {w' : World} {m n : Nat} {l : List (ByteArray × Nat)} {k : ByteArray} {b : Nat} {D : DataW Unit} (hat : ∀ k : ByteArray, D.atKey (.string k.data.toList) .nil = encP (Md.look l k)) (hhas : ∀ k : ByteArray, Maps.has D (.string k.data.toList) = (Md.look l k).isSome)
    (hsz : Maps.size D = l.length) (hd : Md.Dk l) (ht : Tidy D) (hown : w'.ownsMap Tryd.prog 9 ptrElem m n (D.put (.string k.data.toList) (.lit (.int .i64 b)))) : NMap w' m (Md.put l k b) := by
  refine ⟨_, nown_tight hown, fun x => ?_, fun x => ?_, ?_, hd.put k b⟩
  · by_cases e : x = k
    · subst e; rw [atKey_put_same (k := .string x.data.toList) ht.isMap trivial, Md.look_put_same]; rfl
    · rw [atKey_put_other (bytes_ne e), Md.look_put_other b e]; exact hat x
  · by_cases e : x = k
    · subst e; rw [has_put_same (k := .string x.data.toList) ht.isMap trivial, Md.look_put_same]; rfl
    · rw [has_put_other (bytes_ne e), Md.look_put_other b e]; exact hhas x
  · rw [size_put ht, hhas k, hsz]
    have := Md.del_length hd k
    show _ = (Md.del l k).length + 1
    by_cases e : (Md.look l k).isSome = true
    · simp only [e, if_true] at this ⊢; omega
    · simp only [e] at this ⊢; simp at this ⊢; omega

theorem NMap.dropped {w' : World} {m n : Nat} {l : List (ByteArray × Nat)} {k : ByteArray} {D : DataW Unit} (hat : ∀ k : ByteArray, D.atKey (.string k.data.toList) .nil = encP (Md.look l k)) (hhas : ∀ k : ByteArray, Maps.has D (.string k.data.toList) = (Md.look l k).isSome)
    (hsz : Maps.size D = l.length) (hd : Md.Dk l) (ht : Tidy D) (hown : w'.ownsMap Tryd.prog 9 ptrElem m n (D.del (.string k.data.toList))) : NMap w' m (Md.del l k) := by
  refine ⟨_, nown_tight hown, fun x => ?_, fun x => ?_, ?_, hd.del k⟩
  · by_cases e : x = k
    · subst e; rw [atKey_del_same, Md.look_del_same]; rfl
    · rw [atKey_del_other (bytes_ne e), Md.look_del_other e]; exact hat x
  · by_cases e : x = k
    · subst e; rw [has_del_same, Md.look_del_same]; rfl
    · rw [has_del_other (bytes_ne e), Md.look_del_other e]; exact hhas x
  · have h1 := size_del (k := .string k.data.toList) ht
    rw [hhas k, hsz] at h1
    have := Md.del_length hd k
    omega

section
variable {w : World} {ops : Array Oper} {rest : List Oper} {o : Oper} {a : Act} {Q : Exit → Act → World → Prop}

/-- 'm[k]' -/
theorem wpList_nlook {m : Nat} {l : List (ByteArray × Nat)} {k : ByteArray} (h : NMap w m l) (hk : k.size ≤ 1000) (hg : o.guard = none) (x y : Operand) (hop : o.op = Op.lookup 80 x y false) (hm : a.eval x = .map (some m)) (hx : a.eval y = .string k)
    (hK : wpList Tryd.prog ops Q rest (a.put o.dst (.pointer ((Md.look l k).map at0))) w) : wpList Tryd.prog ops Q (o :: rest) a w := by
  refine wpList_plain hg fun K' hK' => ?_
  have hrun := h.look hk
  unfold Oper.wp
  simp [execOp, hop, hm, hx, hrun, Result.andThen]
  exact hK' _ _ hK

/-- 'm[k] = v' -/
theorem wpList_nstore {m : Nat} {l : List (ByteArray × Nat)} {k : ByteArray} {b : Nat} (h : NMap w m l) (hk : k.size ≤ 1000) (hl : l.length < 1000000) (hg : o.guard = none) (x y u : Operand) (hop : o.op = Op.mapUpdate 80 x y u) (hm : a.eval x = .map (some m)) (hx : a.eval y = .string k) (hu : a.eval u = .pointer (some (at0 b)))
    (hK : ∀ w', NMap w' m (Md.put l k b) → Keep [m] w w' → wpList Tryd.prog ops Q rest (a.put o.dst undef) w') : wpList Tryd.prog ops Q (o :: rest) a w := by
  obtain ⟨D, hown, hat, hhas, hsz, hd⟩ := h
  refine wpList_mapUpdate_in _ hg x y u 80 hop 9 61 law9 Tryd.underlying80 _ m _ D hm hown (by rw [hsz]; unfold maxLen; omega) _ _ _ hx hu (WideMaps.keyOf_string_mk (s := k) Tryd.underlying9 (by unfold maxLen; omega)) (.lit (.int .i64 b)) [] rfl ?_
  intro w' hown' ht'
  exact hK w' (NMap.stored hat hhas hsz hd (hown.tidy law9) hown') ((Keep.refl _ _).grown ht'.grown (fun k hk => by cases hk; exact Or.inl (by simp)))

/-- 'delete(m, k)' -/
theorem wpList_ndrop {m : Nat} {l : List (ByteArray × Nat)} {k : ByteArray} (h : NMap w m l) (hk : k.size ≤ 1000) (hg : o.guard = none) (x y : Operand) (hop : o.op = Op.call { callee := Callee.builtin Builtin.delete, args := #[x, y], argTypes := #[80, 9] }) (hm : a.eval x = .map (some m)) (hx : a.eval y = .string k)
    (hK : ∀ w', NMap w' m (Md.del l k) → Keep [m] w w' → wpList Tryd.prog ops Q rest (a.put o.dst (.tuple #[])) w') : wpList Tryd.prog ops Q (o :: rest) a w := by
  obtain ⟨D, hown, hat, hhas, hsz, hd⟩ := h
  refine wpList_delete_own _ hg x y 80 9 hop 61 law9 Tryd.underlying80 _ m _ D hm hown _ _ hx (WideMaps.keyOf_string_mk (s := k) Tryd.underlying9 (by unfold maxLen; omega)) ?_
  intro w' hown' ht'
  exact hK w' (NMap.dropped hat hhas hsz hd (hown.tidy law9) hown') ((Keep.refl _ _).grown ht'.grown (fun k hk => by cases hk; exact Or.inl (by simp)))
end

theorem NMap.len {w : World} {m : Nat} {l : List (ByteArray × Nat)} (h : NMap w m l) (ty : TypeId) : (Builtin.len_ #[80] ty #[.map (some m)]).run Tryd.prog w = .ok (.int .i64 l.length) w := by
  obtain ⟨D, hown, hat, hhas, hsz, _⟩ := h
  rw [← hsz]
  exact hown.len Tryd.underlying80 ty

end Go.Proofs.YtbmbjedpeepnfaaDoor
