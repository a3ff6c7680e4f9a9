/-
  A file system's nodes in memory: which blocks they take, and what a change of one does to the others. No condition.
-/
import Derived.Test.YtbmbjedpeepnfaaDoorMdMap
import Derived.Test.YtbmbjedpeepnfaaDoorNmG
namespace Go.Proofs.YtbmbjedpeepnfaaDoor
open Go.RowKit Go.Maps

/-- a file's bytes: a row of its own, or one that was clipped -/
def DRow (w : World) (v : Value) (xs : List UInt8) : Prop :=
  w.ownsRow 0 5 1 v xs.length (bv xs) ∨ ∃ g cur, v = .slice (some ⟨g, 0, none⟩) xs.length xs.length ∧ w.heap[g]? = some (.cells cur 5 (0, 0)) ∧ xs.length ≤ cur.size ∧ cur.toList.take xs.length = bv xs

theorem DRow.keep {F : List Nat} {w w' : World} {v : Value} {xs : List UInt8} (h : DRow w v xs) (k : Keep F w w') (hd : ∀ x ∈ rowOf v, x ∉ F) : DRow w' v xs := by
  rcases h with h | ⟨g, cur, rfl, h2, h3⟩
  · exact Or.inl (ownsRow_keep h k hd)
  · have hg : g < w.heap.size := (Array.getElem?_eq_some_iff.1 h2).1
    exact Or.inr ⟨g, cur, rfl, (k.block g hg (hd g (by simp [rowOf, Value.ownBlock]))).trans h2, h3⟩

theorem own_lt {w : World} {base : Nat} {e : TypeId} {size n : Nat} {v : Value} {xs : List Value} (h : w.ownsRow base e size v n xs) : ∀ x ∈ rowOf v, x < w.heap.size := by
  intro x hx
  rcases h.2 with ⟨rfl, _⟩ | ⟨g, cap, cur, rfl, _, hb, _⟩
  · simp [rowOf, Value.ownBlock] at hx
  · simp [rowOf, Value.ownBlock] at hx
    subst hx
    exact (Array.getElem?_eq_some_iff.1 hb).1

theorem DRow.lt {w : World} {v : Value} {xs : List UInt8} (h : DRow w v xs) : ∀ x ∈ rowOf v, x < w.heap.size := by
  rcases h with h | ⟨g, cur, rfl, h2, _⟩
  · exact own_lt h
  · intro x hx
    simp [rowOf, Value.ownBlock] at hx
    subst hx
    exact (Array.getElem?_eq_some_iff.1 h2).1

theorem DRow.nil (w : World) : DRow w (.slice none 0 0) [] := Or.inl (World.ownsRow_nil _ _ _ _)

/-- where a node lies -/
structure NdM where
  b : Nat
  m : Option Nat
  dv : Value

def NdM.fp (x : NdM) : List Nat := x.b :: (x.m.toList ++ rowOf x.dv)

/-- the block of node number i -/
def blkOf (ms : List NdM) (i : Nat) : Nat := match ms[i]? with | some x => x.b | none => 0
/-- a directory's entries, with blocks -/
def bents (loc : Nat → Nat) (l : List (ByteArray × Nat)) : List (ByteArray × Nat) := l.map fun p => (p.1, loc p.2)

theorem look_bents (loc : Nat → Nat) (l : List (ByteArray × Nat)) (k : ByteArray) : Md.look (bents loc l) k = (Md.look l k).map loc := by
  induction l with
  | nil => rfl
  | cons p l ih =>
    show (if p.1 = k then some (loc p.2) else Md.look (bents loc l) k) = Option.map loc (if p.1 = k then some p.2 else Md.look l k)
    by_cases h : p.1 = k
    · rw [if_pos h, if_pos h]; rfl
    · rw [if_neg h, if_neg h]; exact ih

theorem bents_del (loc : Nat → Nat) (l : List (ByteArray × Nat)) (k : ByteArray) : bents loc (Md.del l k) = Md.del (bents loc l) k := by
  unfold bents Md.del
  rw [List.filter_map]
  rfl

theorem bents_put (loc : Nat → Nat) (l : List (ByteArray × Nat)) (k : ByteArray) (v : Nat) : bents loc (Md.put l k v) = Md.put (bents loc l) k (loc v) := by
  show (k, loc v) :: bents loc (Md.del l k) = _
  rw [bents_del]; rfl

theorem bents_congr {loc loc' : Nat → Nat} {l : List (ByteArray × Nat)} (h : ∀ p ∈ l, loc p.2 = loc' p.2) : bents loc l = bents loc' l :=
  List.map_congr_left (fun p hp => by rw [h p hp])

structure NdAt (w : World) (loc : Nat → Nat) (x : NdM) (nd : Md.Nd) : Prop where
  blk : Blk w x.b [.map x.m, x.dv, .int .i64 nd.links] 82
  own : DRow w x.dv nd.data
  ents : (x.m = none ∧ nd.dir = false ∧ nd.ents = []) ∨ ∃ m, x.m = some m ∧ nd.dir = true ∧ NMap w m (bents loc nd.ents)
  apart : x.b ∉ x.m.toList ++ rowOf x.dv ∧ ∀ k ∈ x.m.toList, k ∉ rowOf x.dv

theorem NdAt.lt {w : World} {loc : Nat → Nat} {x : NdM} {nd : Md.Nd} (h : NdAt w loc x nd) : ∀ k ∈ x.fp, k < w.heap.size := by
  intro k hk
  rcases List.mem_cons.1 hk with rfl | hk
  · exact h.blk.lt
  · rcases List.mem_append.1 hk with hk | hk
    · rcases h.ents with ⟨e, _⟩ | ⟨m, e, _, hm⟩
      · rw [e] at hk; simp at hk
      · rw [e] at hk; simp at hk; subst hk; exact hm.lt
    · exact h.own.lt k hk

theorem NdAt.keep {F : List Nat} {w w' : World} {loc : Nat → Nat} {x : NdM} {nd : Md.Nd} (h : NdAt w loc x nd) (k : Keep F w w') (hd : ∀ i ∈ x.fp, i ∉ F) : NdAt w' loc x nd := by
  refine ⟨h.blk.keep k (hd _ (by simp [NdM.fp])), h.own.keep k (fun i hi => hd i (by simp [NdM.fp, hi])), ?_, h.apart⟩
  rcases h.ents with e | ⟨m, e1, e2, hm⟩
  · exact Or.inl e
  · exact Or.inr ⟨m, e1, e2, hm.keep k (hd m (by simp [NdM.fp, e1]))⟩

/-- all nodes, each in blocks of its own -/
structure Mem (w : World) (ms : List NdM) (s : Md.St) : Prop where
  len : ms.length = s.length
  at' : ∀ (i : Nat) (x : NdM) (nd : Md.Nd), ms[i]? = some x → s[i]? = some nd → NdAt w (blkOf ms) x nd
  apart : ∀ (i j : Nat) (x y : NdM), i ≠ j → ms[i]? = some x → ms[j]? = some y → ∀ k ∈ x.fp, k ∉ y.fp

def fps (ms : List NdM) : List Nat := ms.flatMap NdM.fp

theorem mem_fps {ms : List NdM} {k : Nat} : k ∈ fps ms ↔ ∃ (i : Nat) (x : NdM), ms[i]? = some x ∧ k ∈ x.fp := by
  unfold fps
  rw [List.mem_flatMap]
  constructor
  · rintro ⟨x, hx, hk⟩
    obtain ⟨i, hi⟩ := List.mem_iff_getElem?.1 hx
    exact ⟨i, x, hi, hk⟩
  · rintro ⟨i, x, hi, hk⟩
    exact ⟨x, List.mem_of_getElem? hi, hk⟩

theorem Mem.both {w : World} {ms : List NdM} {s : Md.St} (h : Mem w ms s) {i : Nat} {x : NdM} (hx : ms[i]? = some x) : ∃ nd, s[i]? = some nd := by
  have hi : i < ms.length := (List.getElem?_eq_some_iff.1 hx).1
  exact ⟨s[i]'(by rw [← h.len]; exact hi), List.getElem?_eq_getElem _⟩

theorem Mem.both' {w : World} {ms : List NdM} {s : Md.St} (h : Mem w ms s) {i : Nat} {nd : Md.Nd} (hx : s[i]? = some nd) : ∃ x, ms[i]? = some x := by
  have hi : i < s.length := (List.getElem?_eq_some_iff.1 hx).1
  exact ⟨ms[i]'(by rw [h.len]; exact hi), List.getElem?_eq_getElem _⟩

theorem Mem.lt {w : World} {ms : List NdM} {s : Md.St} (h : Mem w ms s) : ∀ k ∈ fps ms, k < w.heap.size := by
  intro k hk
  obtain ⟨i, x, hx, hk⟩ := mem_fps.1 hk
  obtain ⟨nd, hn⟩ := h.both hx
  exact (h.at' i x nd hx hn).lt k hk

theorem Mem.keep {F : List Nat} {w w' : World} {ms : List NdM} {s : Md.St} (h : Mem w ms s) (k : Keep F w w') (hd : ∀ i ∈ fps ms, i ∉ F) : Mem w' ms s :=
  ⟨h.len, fun i x nd hx hn => (h.at' i x nd hx hn).keep k (fun j hj => hd j (mem_fps.2 ⟨i, x, hx, hj⟩)), h.apart⟩

theorem blkOf_set {ms : List NdM} {i : Nat} {x x' : NdM} (hx : ms[i]? = some x) (hb : x'.b = x.b) : blkOf (ms.set i x') = blkOf ms := by
  funext j
  unfold blkOf
  by_cases e : i = j
  · subst e
    rw [List.getElem?_set_self (List.getElem?_eq_some_iff.1 hx).1, hx]
    exact hb
  · rw [List.getElem?_set_ne e]

/-- node number i changes, in its own blocks or in new ones -/
theorem Mem.set {F : List Nat} {w w' : World} {ms : List NdM} {s : Md.St} (h : Mem w ms s) {i : Nat} {x x' : NdM} {nd' : Md.Nd} (hx : ms[i]? = some x) (k : Keep F w w') (hF : ∀ j ∈ F, j ∈ x.fp ∨ w.heap.size ≤ j) (hb : x'.b = x.b)
    (hf : ∀ j ∈ x'.fp, j ∈ x.fp ∨ w.heap.size ≤ j) (ha : NdAt w' (blkOf ms) x' nd') : Mem w' (ms.set i x') (s.set i nd') := by
  have hi : i < ms.length := (List.getElem?_eq_some_iff.1 hx).1
  have hlt := h.lt
  refine ⟨by simp [h.len], fun j y nd hy hn => ?_, fun a b y z hab hy hz q hq => ?_⟩
  · rw [blkOf_set hx hb]
    by_cases e : i = j
    · subst e
      rw [List.getElem?_set_self hi] at hy
      rw [List.getElem?_set_self (by rw [← h.len]; exact hi)] at hn
      injection hy with hy
      injection hn with hn
      subst hy hn
      exact ha
    · rw [List.getElem?_set_ne e] at hy hn
      refine (h.at' j y nd hy hn).keep k (fun q hq hf' => ?_)
      rcases hF q hf' with h1 | h1
      · exact h.apart i j x y e hx hy q h1 hq
      · have := hlt q (mem_fps.2 ⟨j, y, hy, hq⟩); omega
  · by_cases ea : i = a
    · subst ea
      rw [List.getElem?_set_self hi] at hy
      injection hy with hy
      subst hy
      rw [List.getElem?_set_ne hab] at hz
      intro hq2
      rcases hf q hq with h1 | h1
      · exact h.apart i b x z hab hx hz q h1 hq2
      · have := hlt q (mem_fps.2 ⟨b, z, hz, hq2⟩); omega
    · rw [List.getElem?_set_ne ea] at hy
      by_cases eb : i = b
      · subst eb
        rw [List.getElem?_set_self hi] at hz
        injection hz with hz
        subst hz
        intro hq2
        rcases hf q hq2 with h1 | h1
        · exact h.apart a i y x hab hy hx q hq h1
        · have := hlt q (mem_fps.2 ⟨a, y, hy, hq⟩); omega
      · rw [List.getElem?_set_ne eb] at hz
        exact h.apart a b y z hab hy hz q hq

/-- entries lead to nodes -/
def Leads (s : Md.St) : Prop := ∀ (i : Nat) (nd : Md.Nd), s[i]? = some nd → ∀ p ∈ nd.ents, p.2 < s.length

theorem blkOf_push {ms : List NdM} (x : NdM) {j : Nat} (hj : j < ms.length) : blkOf (ms ++ [x]) j = blkOf ms j := by
  unfold blkOf
  rw [List.getElem?_append_left hj]

/-- a new node -/
theorem Mem.push {w w' : World} {ms : List NdM} {s : Md.St} (h : Mem w ms s) (hl : Leads s) (k : Keep [] w w') {x : NdM} {nd : Md.Nd} (hf : ∀ j ∈ x.fp, w.heap.size ≤ j) (he : nd.ents = []) (ha : NdAt w' (blkOf ms) x nd) : Mem w' (ms ++ [x]) (s ++ [nd]) := by
  have h' := h.keep k (by simp)
  have hlt := h.lt
  have congr : ∀ (y : NdM) (md : Md.Nd), (∀ p ∈ md.ents, p.2 < ms.length) → NdAt w' (blkOf ms) y md → NdAt w' (blkOf (ms ++ [x])) y md := fun y md hp hy => by
    refine ⟨hy.blk, hy.own, ?_, hy.apart⟩
    rcases hy.ents with e | ⟨m, e1, e2, hm⟩
    · exact Or.inl e
    · exact Or.inr ⟨m, e1, e2, by rw [bents_congr (fun p hp' => blkOf_push x (hp p hp'))]; exact hm⟩
  refine ⟨by simp [h.len], fun j y md hy hn => ?_, fun a b y z hab hy hz q hq hq2 => ?_⟩
  · by_cases e : j < ms.length
    · rw [List.getElem?_append_left e] at hy
      rw [List.getElem?_append_left (by rw [← h.len]; exact e)] at hn
      exact congr y md (fun p hp => by rw [h.len]; exact hl j md hn p hp) (h'.at' j y md hy hn)
    · have hj : j = ms.length := by
        have := (List.getElem?_eq_some_iff.1 hy).1
        simp at this
        omega
      subst hj
      rw [List.getElem?_append_right (Nat.le_refl _)] at hy
      rw [h.len, List.getElem?_append_right (Nat.le_refl _)] at hn
      simp at hy hn
      subst hy hn
      exact congr _ _ (fun p hp => by rw [he] at hp; cases hp) ha
  · have get : ∀ (c : Nat) (u : NdM), (ms ++ [x])[c]? = some u → (c < ms.length ∧ ms[c]? = some u) ∨ (c = ms.length ∧ u = x) := fun c u hu => by
      by_cases e : c < ms.length
      · rw [List.getElem?_append_left e] at hu; exact Or.inl ⟨e, hu⟩
      · have hc : c = ms.length := by
          have := (List.getElem?_eq_some_iff.1 hu).1
          simp at this
          omega
        subst hc
        rw [List.getElem?_append_right (Nat.le_refl _)] at hu
        simp at hu
        exact Or.inr ⟨rfl, hu.symm⟩
    rcases get a y hy with ⟨_, h1⟩ | ⟨h1, rfl⟩ <;> rcases get b z hz with ⟨_, h2⟩ | ⟨h2, rfl⟩
    · exact h.apart a b y z hab h1 h2 q hq hq2
    · have := hlt q (mem_fps.2 ⟨a, y, h1, hq⟩); have := hf q hq2; omega
    · have := hlt q (mem_fps.2 ⟨b, z, h2, hq2⟩); have := hf q hq; omega
    · omega

/-- block mb is a file system whose nodes are s -/
structure IsM (w : World) (mb : Nat) (ms : List NdM) (s : Md.St) : Prop where
  blk : Blk w mb [.pointer (some (at0 (blkOf ms 0)))] 64
  mem : Mem w ms s
  pos : 0 < s.length
  out : mb ∉ fps ms

theorem IsM.keep {F : List Nat} {w w' : World} {mb : Nat} {ms : List NdM} {s : Md.St} (h : IsM w mb ms s) (k : Keep F w w') (hm : mb ∉ F) (hd : ∀ i ∈ fps ms, i ∉ F) : IsM w' mb ms s :=
  ⟨h.blk.keep k hm, h.mem.keep k hd, h.pos, h.out⟩

theorem blkOf_inj {w : World} {ms : List NdM} {s : Md.St} (h : Mem w ms s) {i j : Nat} (hi : i < s.length) (hj : j < s.length) (e : blkOf ms i = blkOf ms j) : i = j := by
  refine Decidable.byContradiction fun hne => ?_
  have h1 : ms[i]? = some (ms[i]'(by rw [h.len]; exact hi)) := List.getElem?_eq_getElem _
  have h2 : ms[j]? = some (ms[j]'(by rw [h.len]; exact hj)) := List.getElem?_eq_getElem _
  refine h.apart i j _ _ hne h1 h2 (blkOf ms i) ?_ ?_
  · unfold blkOf; rw [h1]; simp [NdM.fp]
  · rw [e]; unfold blkOf; rw [h2]; simp [NdM.fp]

end Go.Proofs.YtbmbjedpeepnfaaDoor
