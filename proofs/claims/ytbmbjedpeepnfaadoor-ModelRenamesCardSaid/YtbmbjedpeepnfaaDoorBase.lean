/-
  What a call leaves as it was: 'Keep F w w'' says that every block of w that is not in F is in w' what it was, and that no block has gone. Small laws on it, on blocks of cells, on owned rows. No condition.
-/
import Derived.WalkKit
import Derived.WalkLawsBesides
import Derived.WalkSpells
import Derived.Handy
import Derived.Lib.Hide
import Derived.Lib.AppendStr
import Derived.Maps.AppendAt
import Derived.Lib.AppendZerosOnto
import Derived.Deep.AppendLies
namespace Go.Proofs.YtbmbjedpeepnfaaDoor
open Go.RowKit

/-- all that lay in w, but for the blocks of F, lies in w' as it was -/
structure Keep (F : List Nat) (w w' : World) : Prop where
  os : w'.os = w.os
  tape : w'.tape = w.tape
  output : w'.output = w.output
  size : w.heap.size ≤ w'.heap.size
  block : ∀ k, k < w.heap.size → k ∉ F → w'.heap[k]? = w.heap[k]?

theorem Keep.refl (F : List Nat) (w : World) : Keep F w w := ⟨rfl, rfl, rfl, Nat.le_refl _, fun _ _ _ => rfl⟩

theorem Keep.trans {F G : List Nat} {a b c : World} (h : Keep F a b) (k : Keep G b c) (hs : ∀ x ∈ G, x ∈ F ∨ a.heap.size ≤ x) : Keep F a c :=
  ⟨k.os.trans h.os, k.tape.trans h.tape, k.output.trans h.output, Nat.le_trans h.size k.size, fun i hi hn =>
    (k.block i (Nat.lt_of_lt_of_le hi h.size) (fun hg => (hs i hg).elim hn (fun hle => absurd hi (Nat.not_lt.2 hle)))).trans (h.block i hi hn)⟩

theorem Keep.mono {F G : List Nat} {a b : World} (h : Keep F a b) (hs : ∀ x ∈ F, x ∈ G ∨ a.heap.size ≤ x) : Keep G a b :=
  ⟨h.os, h.tape, h.output, h.size, fun i hi hn => h.block i hi (fun hf => (hs i hf).elim hn (fun hle => absurd hi (Nat.not_lt.2 hle)))⟩

theorem Keep.alloc {F : List Nat} {a w : World} (h : Keep F a w) (o : Obj) : Keep F a (w.alloc o) :=
  ⟨h.os, h.tape, h.output, by simp; exact Nat.le_succ_of_le h.size, fun i hi hn => (Below.heap_alloc w o i (Nat.lt_of_lt_of_le hi h.size)).trans (h.block i hi hn)⟩

theorem Keep.setCell {F : List Nat} {a w : World} (h : Keep F a w) {p : Addr} (hp : p.block ∈ F ∨ a.heap.size ≤ p.block) (u : Value) : Keep F a (w.setCell p u) :=
  ⟨h.os, h.tape, h.output, by simpa using h.size, fun i hi hn => (Below.heap_setCell w p u i (fun e => by subst e; exact hp.elim hn (fun hle => absurd hi (Nat.not_lt.2 hle)))).trans (h.block i hi hn)⟩

theorem Keep.drew {F : List Nat} {a w : World} (h : Keep F a w) : Keep F a w.drew := ⟨h.os, h.tape, h.output, h.size, h.block⟩
theorem Keep.drewN {F : List Nat} {a w : World} (h : Keep F a w) (n : Nat) : Keep F a (w.drewN n) := ⟨h.os, h.tape, h.output, h.size, h.block⟩

theorem Keep.grown {F : List Nat} {a w w' : World} {row : Option Nat} (h : Keep F a w) (hg : w.grownBy w' row) (hr : ∀ k, row = some k → k ∈ F ∨ a.heap.size ≤ k) : Keep F a w' :=
  ⟨hg.os.trans h.os, hg.tape.trans h.tape, hg.output.trans h.output, Nat.le_trans h.size hg.size, fun i hi hn =>
    (hg.block i (Nat.lt_of_lt_of_le hi h.size) (fun e => (hr i e.symm).elim hn (fun hle => absurd hi (Nat.not_lt.2 hle)))).trans (h.block i hi hn)⟩

theorem Keep.ofBelow {w w' : World} (h : Below w.heap.size w w') : Keep [] w w' := ⟨h.os, h.tape, h.output, h.size, fun k hk _ => h.block k hk⟩
theorem Keep.below {F : List Nat} {B : Nat} {w w' : World} (h : Keep F w w') (hB : B ≤ w.heap.size) (hF : ∀ x ∈ F, B ≤ x) : Below B w w' :=
  ⟨h.os, h.tape, h.output, h.size, fun k hk => h.block k (Nat.lt_of_lt_of_le hk hB) (fun hf => absurd hk (Nat.not_lt.2 (hF k hf)))⟩
theorem Keep.below0 {w w' : World} (h : Keep [] w w') : Below w.heap.size w w' := h.below (Nat.le_refl _) (fun _ h => by cases h)
theorem Keep.cell {F : List Nat} {w w' : World} (h : Keep F w w') {p : Addr} (hp : p.block < w.heap.size) (hn : p.block ∉ F) : w'.cell? p = w.cell? p := World.cell?_of_block (w := w) (h.block p.block hp hn)
theorem Keep.frozen {F : List Nat} {w w' : World} (h : Keep F w w') {p : Addr} (hp : p.block < w.heap.size) (hn : p.block ∉ F) : w'.frozen? p = w.frozen? p := World.frozen?_of_block (w := w) (h.block p.block hp hn)

/-- block b is the row cs, none of it frozen -/
def Blk (w : World) (b : Nat) (cs : List Value) (t : TypeId) : Prop := w.heap[b]? = some (.cells cs.toArray t (0, 0))

theorem Blk.lt {w : World} {b : Nat} {cs : List Value} {t : TypeId} (h : Blk w b cs t) : b < w.heap.size := (Array.getElem?_eq_some_iff.1 h).1
theorem Blk.keep {F : List Nat} {w w' : World} {b : Nat} {cs : List Value} {t : TypeId} (h : Blk w b cs t) (k : Keep F w w') (hn : b ∉ F) : Blk w' b cs t := (k.block b h.lt hn).trans h
theorem Blk.cell {w : World} {b : Nat} {cs : List Value} {t : TypeId} (h : Blk w b cs t) (i : Nat) : w.cell? ⟨b, i, none⟩ = cs[i]? := by
  have := cell_of_row w b i cs.toArray t (0, 0) h; simpa using this
theorem Blk.free {w : World} {b : Nat} {cs : List Value} {t : TypeId} (h : Blk w b cs t) (i : Nat) : w.frozen? ⟨b, i, none⟩ = false := by simp [World.frozen?, show w.heap[b]? = _ from h]
theorem Blk.set {w : World} {b : Nat} {cs : List Value} {t : TypeId} (h : Blk w b cs t) (i : Nat) (u : Value) : Blk (w.setCell ⟨b, i, none⟩ u) b (cs.set i u) t := by
  have := heap_setCell_same w b i cs.toArray t u h; unfold Blk; rw [this]; simp
theorem Blk.setOther {w : World} {b : Nat} {cs : List Value} {t : TypeId} (h : Blk w b cs t) {p : Addr} (hp : b ≠ p.block) (u : Value) : Blk (w.setCell p u) b cs t :=
  (Below.heap_setCell w p u b hp).trans h
theorem Blk.alloc {w : World} {b : Nat} {cs : List Value} {t : TypeId} (h : Blk w b cs t) (o : Obj) : Blk (w.alloc o) b cs t := (Below.heap_alloc w o b h.lt).trans h
theorem Blk.new (w : World) (cs : Array Value) (t : TypeId) : Blk (w.alloc (.cells cs t)) w.heap.size cs.toList t := by
  unfold Blk; rw [heap_alloc_new]
theorem Blk.new' (w : World) (cs : List Value) (t : TypeId) : Blk (w.alloc (.cells cs.toArray t)) w.heap.size cs t := by
  unfold Blk; rw [heap_alloc_new]
theorem Blk.drew {w : World} {b : Nat} {cs : List Value} {t : TypeId} (h : Blk w b cs t) : Blk w.drew b cs t := h
theorem Blk.grown {w w' : World} {b : Nat} {cs : List Value} {t : TypeId} {row : Option Nat} (h : Blk w b cs t) (hg : w.grownBy w' row) (hn : some b ≠ row) : Blk w' b cs t := (hg.block b h.lt hn).trans h

/-- the owned row of a slice value: which block it lies in, if any -/
def rowOf (v : Value) : List Nat := v.ownBlock.toList
theorem mem_rowOf {v : Value} {k : Nat} : k ∈ rowOf v ↔ v.ownBlock = some k := by simp [rowOf]

theorem ownsRow_keep {F : List Nat} {w w' : World} {base : Nat} {e : TypeId} {size : Nat} {v : Value} {n : Nat} {xs : List Value} (h : w.ownsRow base e size v n xs) (k : Keep F w w') (hd : ∀ x ∈ rowOf v, x ∉ F) : w'.ownsRow base e size v n xs := by
  refine ⟨h.1, ?_⟩
  rcases h.2 with hn | ⟨g, cap, cur, rfl, hb, hgg, rest⟩
  · exact .inl hn
  · refine .inr ⟨g, cap, cur, rfl, hb, ?_, rest⟩
    rw [k.block g (Array.getElem?_eq_some_iff.1 hgg).1 (hd g (by simp [rowOf, Value.ownBlock]))]
    exact hgg

/-! ### append onto an owned row, whatever is appended -/

/-- what an append leaves: the new value owns the row zs, in w's blocks but for v's own row, which is where the new row lies, or in the next block -/
def AppOut (e : TypeId) (size : Nat) (w : World) (v : Value) (n : Nat) (zs : List Value) (v' : Value) (w' : World) : Prop :=
  w'.ownsRow 0 e size v' n zs ∧ w.grownBy w' v.ownBlock ∧ ∀ k ∈ rowOf v', k ∈ rowOf v ∨ w.heap.size ≤ k

theorem AppOut.trans {e : TypeId} {size : Nat} {w w1 w2 : World} {v v1 v2 : Value} {n m : Nat} {xs zs : List Value} (h : AppOut e size w v n xs v1 w1) (k : AppOut e size w1 v1 m zs v2 w2) : AppOut e size w v m zs v2 w2 := by
  refine ⟨k.1, ⟨k.2.1.os.trans h.2.1.os, k.2.1.tape.trans h.2.1.tape, k.2.1.output.trans h.2.1.output, Nat.le_trans h.2.1.size k.2.1.size, fun j hj hn => ?_⟩, fun j hj => ?_⟩
  · refine (k.2.1.block j (Nat.lt_of_lt_of_le hj h.2.1.size) (fun e => ?_)).trans (h.2.1.block j hj hn)
    rcases h.2.2 j (mem_rowOf.2 e.symm) with h | h
    · exact hn (mem_rowOf.1 h).symm
    · omega
  · rcases k.2.2 j hj with h' | h'
    · exact h.2.2 j h'
    · exact Or.inr (Nat.le_trans h.2.1.size h')

theorem AppOut.slice {e : TypeId} {size : Nat} {w : World} {v : Value} {n : Nat} {zs : List Value} {v' : Value} {w' : World} (h : AppOut e size w v n zs v' w') : ∃ ao cap, v' = .slice ao n cap := by
  rcases h.1.2 with ⟨h1, h2⟩ | ⟨g, cap, cur, h1, _⟩
  · exact ⟨none, 0, by rw [h1, h2]⟩
  · exact ⟨_, cap, h1⟩

theorem run_app_slice {P : Program} (w : World) (t ty e : TypeId) (i : TypeInfo) (z : Value) (size bytes : Nat) (ht : P.underlying t = some (.slice e)) (hi : P.info? e = some i) (hz : i.zero = some z)
    (hsize : i.size = size) (hby : i.bytes = bytes) (hzs : z.cells.size = size) (hsz : 0 < size)
    (v : Value) (n : Nat) (xs : List Value) (hown : w.ownsRow 0 e size v n xs)
    (ao : Option Addr) (m c : Nat) (news : List Value) (hl : news.length = m * size) (hc : ao = none → m = 0 ∧ c = 0) (hnews : ∀ a, ao = some a → ∀ j u, news[j]? = some u → w.cell? (a.add j) = some u) (h1 : ∀ u ∈ news, u.oneCell' = true)
    (h63 : n + m ≤ maxLen) (hbytes : (n + m) * bytes ≤ 140737488355328) :
    ∃ v' w', (Builtin.append_ #[t, t] ty #[v, .slice ao m c]).run P w = .ok v' w' ∧ AppOut e size w v (n + m) (xs ++ news) v' w' := by
  cases ao with
  | none =>
    obtain ⟨rfl, rfl⟩ := hc rfl
    have hn : news = [] := List.eq_nil_of_length_eq_zero (by simpa using hl)
    subst hn
    have hrun := run_append_owned_none (P := P) (w := w) 0 t ty e i size ht hi v n xs hown
    exact ⟨v, w, hrun, by simpa using hown, World.grownBy.refl _ _, fun k hk => Or.inl hk⟩
  | some a =>
    obtain ⟨v', w', hr, h2, h3, _, h5⟩ := run_append_own_at (P := P) w 0 t ty e i z size bytes ht hi hz hsize hby hzs hsz v n xs hown a m c news hl (hnews a rfl) h1 h63 hbytes (Nat.zero_le _)
    refine ⟨v', w', hr, h2, h3, fun k hk => ?_⟩
    rw [mem_rowOf] at hk ⊢
    rcases h5 with h5 | h5
    · exact Or.inl (h5 ▸ hk)
    · rw [h5] at hk; exact Or.inr (Nat.le_of_eq (Option.some.inj hk))

theorem ok_inj {α : Type} {a b : α} {w w' : World} {r : Result α} (h : r = .ok a w) (k : r = .ok b w') : a = b ∧ w = w' := by
  rw [h] at k; cases k; exact ⟨rfl, rfl⟩

theorem run_app_str {P : Program} (w : World) (t u ty e : TypeId) (i : TypeInfo) (ht : P.underlying t = some (.slice e)) (hu : P.underlying u = some .string) (hi : P.info? e = some i) (hz : i.zero = some (.int .u8 0))
    (hsize : i.size = 1) (hby : i.bytes = 1) (v : Value) (n : Nat) (xs : List Value) (hown : w.ownsRow 0 e 1 v n xs) (s : ByteArray) (h63 : n + s.size ≤ maxLen) (hbytes : n + s.size ≤ 140737488355328) :
    ∃ v' w', (Builtin.append_ #[t, u] ty #[v, .string s]).run P w = .ok v' w' ∧ AppOut e 1 w v (n + s.size) (xs ++ Lib.strCells s) v' w' := by
  obtain ⟨v', w', hr, h2, h3, h4⟩ := Lib.run_append_own_string (P := P) w 0 t u ty e i ht hu hi hz hsize hby v n xs hown s h63 hbytes (Nat.zero_le _)
  refine ⟨v', w', hr, h2, h3, fun k hk => ?_⟩
  have hsmall : n + s.size ≤ 9223372036854775807 := by simp only [maxLen] at h63; omega
  rw [mem_rowOf] at hk ⊢
  rcases hown.2 with ⟨rfl, rfl⟩ | ⟨g, cap, cur, rfl, hbg, hg, hnc, hcm, hcs, htake⟩
  · by_cases hm : s.size = 0
    · have := h4.2 ⟨rfl, hm⟩
      subst this
      exact Or.inl hk
    · have hr' := run_append_nil_string (P := P) w t u ty e i (.int .u8 0) ht hu hi hz s (by omega) (by omega) (by rw [hby]; omega)
      obtain ⟨rfl, _⟩ := ok_inj hr hr'
      right
      exact Nat.le_of_eq (by simpa [Value.ownBlock] using hk)
  · by_cases hroom : n + s.size ≤ cap
    · have hcs' : cur.size = cap := by simpa using hcs
      have hr' := Lib.run_append_room_string (P := P) w t u ty e i ht hu hi hsize g n cap cur hg s hroom (by omega)
      obtain ⟨rfl, _⟩ := ok_inj hr hr'
      exact Or.inl hk
    · have holds : ∀ j u, xs[j]? = some u → w.cell? ((⟨g, 0, none⟩ : Addr).add j) = some u := hown.cells (g := g) rfl
      have hr' := Lib.run_append_grow_string (P := P) w t u ty e i (.int .u8 0) ht hu hi hz ⟨g, 0, none⟩ n cap xs (by rw [hsize]; simpa using hown.1) holds s (by omega) (by omega) (by rw [hby]; exact growslice_fits (by omega) (by omega))
      obtain ⟨rfl, _⟩ := ok_inj hr hr'
      right
      exact Nat.le_of_eq (by simpa [Value.ownBlock] using hk)

theorem zeroCells_toList (z : Value) (hz : z.cells = #[z]) (n : Nat) : (Builtin.zeroCells z.cells n).toList = List.replicate n z := by
  rw [hz]
  apply List.ext_getElem
  · simp [Builtin.zeroCells]
  · intro j h1 h2
    simp [Builtin.zeroCells, Nat.mod_one]

theorem run_app_zeros {P : Program} (w : World) (t tn ty e : TypeId) (i : TypeInfo) (kn kq : IntKind) (ht : P.underlying t = some (.slice e)) (htn : P.underlying tn = some (.int kn)) (hi : P.info? e = some i) (hz : i.zero = some (.int .u8 0))
    (hsize : i.size = 1) (hby : i.bytes = 1) (v : Value) (n : Nat) (xs : List Value) (hown : w.ownsRow 0 e 1 v n xs) (k : Nat) (h63 : n + k ≤ maxLen) (hbytes : n + k ≤ 140737488355328) :
    ∃ v' w', (Builtin.append_ #[t, tn] ty #[v, .int kq k]).run P w = .ok v' w' ∧ AppOut e 1 w v (n + k) (xs ++ List.replicate k (.int .u8 0)) v' w' := by
  have hsmall : n + k ≤ 9223372036854775807 := by simp only [maxLen] at h63; omega
  have hxl : xs.length = n := by simpa using hown.1
  have hw : IntKind.i64.wrap (k : Int) = k := by rw [IntKind.wrap_i64]; omega
  have hneg : ¬ ((k : Int) < 0) := by omega
  have h48i : ¬ (281474976710656 < (k : Int)) := by omega
  have hlen : (xs ++ List.replicate k (Value.int .u8 0)).length = (n + k) * 1 := by rw [List.length_append, hxl, List.length_replicate, Nat.mul_one]
  have hzl := fun m => zeroCells_toList (.int .u8 0) rfl m
  have hza : ∀ m, Builtin.zeroCells (Value.int .u8 0).cells m = (List.replicate m (Value.int .u8 0)).toArray := fun m => by apply Array.ext'; rw [hzl]
  have grown : ∀ (old : Nat), old < n + k → ∀ (row : Option Nat),
      (w.drew.alloc (.cells (xs.toArray ++ Builtin.zeroCells (Value.int .u8 0).cells k ++ Builtin.zeroCells (Value.int .u8 0).cells (grownCap w (n + k) old e - (n + k))) e)).ownsRow 0 e 1
        (.slice (some ⟨w.heap.size, 0, none⟩) (n + k) (grownCap w (n + k) old e)) (n + k) (xs ++ List.replicate k (.int .u8 0)) ∧
      w.grownBy (w.drew.alloc (.cells (xs.toArray ++ Builtin.zeroCells (Value.int .u8 0).cells k ++ Builtin.zeroCells (Value.int .u8 0).cells (grownCap w (n + k) old e - (n + k))) e)) row := by
    intro old ho row
    have hge := grownCap_ge w (n + k) old e
    have hcm : grownCap w (n + k) old e ≤ maxLen := grownCap_le_maxLen w (n + k) old e h63
    refine ⟨⟨hlen, .inr ⟨w.heap.size, _, _, rfl, Nat.zero_le _, heap_alloc_new w.drew _, hge, hcm, ?_, ?_⟩⟩, ⟨rfl, rfl, rfl, by simp, fun j hj _ => Below.heap_alloc w.drew _ j hj⟩⟩
    · rw [hza, hza]; simp only [Array.size_append, List.size_toArray, List.length_replicate, hxl]; omega
    · rw [hza, hza]; simp only [Array.toList_append]; rw [← hlen]; exact List.take_left
  have hzlen : List.length (List.replicate k (Value.int .u8 0)) = k := List.length_replicate
  have hz1 : ∀ u ∈ List.replicate k (Value.int .u8 0), u.oneCell' = true := fun u hu => by rw [(List.mem_replicate.1 hu).2]; rfl
  rcases hown.2 with ⟨rfl, rfl⟩ | ⟨g, cap, cur, rfl, hbg, hg, hnc, hcm, hcs, htake⟩
  · have hx : xs = [] := List.eq_nil_of_length_eq_zero hxl
    subst hx
    by_cases hk : k = 0
    · subst hk
      refine ⟨.slice none 0 0, w, ?_, by simpa using World.ownsRow_nil w 0 e 1, World.grownBy.refl _ _, fun k hk => Or.inl hk⟩
      have hw0 : IntKind.i64.wrap 0 = 0 := by decide
      simp [Builtin.append_, run_underlying ht, run_underlying htn, sizeOf, typeInfo, zeroValue, hi, hz, asInt, asIntOf, hw0]
    · have hr := Lib.run_append_nil_zeros (P := P) w t tn ty e i (.int .u8 0) kq kn ht htn hi hz k (by omega) (by omega) (by omega) (by rw [hby]; omega)
      have hgr := grown 0 (by omega) (Value.ownBlock (.slice none 0 0))
      simp only [Nat.zero_add, List.nil_append, Array.empty_append] at hgr ⊢
      exact ⟨_, _, hr, hgr.1, hgr.2, fun j hj => Or.inr (by simp [rowOf, Value.ownBlock] at hj; omega)⟩
  · have hcs' : cur.size = cap := by simpa using hcs
    by_cases hroom : n + k ≤ cap
    · by_cases hk : k = 0
      · subst hk
        refine ⟨.slice (some ⟨g, 0, none⟩) n cap, w, ?_, by simpa using hown, World.grownBy.refl _ _, fun k hk => Or.inl hk⟩
        have hw0 : IntKind.i64.wrap 0 = 0 := by decide
        simp [Builtin.append_, run_underlying ht, run_underlying htn, sizeOf, typeInfo, zeroValue, hi, hz, asInt, asIntOf, hw0, hnc, storeCells]
      · have hst := run_storeCells_at P g n e (List.replicate k (Value.int .u8 0)) 0 cur w hg (by simpa [hzlen, hcs'] using hroom) hz1
        simp only [Nat.add_zero, hzlen] at hst
        have hns : ¬ (k * i.size = 0) := Nat.mul_ne_zero hk (by omega)
        refine ⟨.slice (some ⟨g, 0, none⟩) (n + k) cap, w.setRow g (cur.toList.take n ++ List.replicate k (Value.int .u8 0) ++ cur.toList.drop (n + k)).toArray, ?_, ⟨hlen, .inr ⟨g, cap, _, rfl, hbg, setRow_heap w g cur _ e _ hg, hroom, hcm, ?_, ?_⟩⟩, ⟨rfl, rfl, rfl, by simp, fun k _ hk => setRow_other w g k _ (fun e => hk (by simp [Value.ownBlock, e]))⟩, fun j hj => Or.inl hj⟩
        · simp [Builtin.append_, run_underlying ht, run_underlying htn, sizeOf, typeInfo, zeroValue, hi, hz, asInt, asIntOf, hw, hneg, hsize, hby, h48i, hk, hroom, Addr.add_lit, hzl, hst]
        · simp only [List.size_toArray, List.length_append, List.length_take, List.length_drop, Array.length_toList, List.length_replicate]; omega
        · have ht' : cur.toList.take n = xs := by simpa using htake
          rw [ht', ← hlen]
          exact List.take_left
    · have holds : ∀ j u, xs[j]? = some u → w.drew.cell? ((⟨g, 0, none⟩ : Addr).add j) = some u := hown.cells (g := g) rfl
      have hfo := run_firstCells_some (P := P) w.drew i.size n ⟨g, 0, none⟩ n cap xs (by rw [hsize]; simpa using hxl) holds
      have hr := Lib.run_append_grow_zeros (P := P) w t tn ty e i (.int .u8 0) kq kn ht htn hi hz (some ⟨g, 0, none⟩) n cap xs hfo k (by omega) (by omega) (by omega) (by omega) (by rw [hby]; omega) (by rw [hby]; exact growslice_fits (by omega) (by omega))
      have hgr := grown cap (by omega) (Value.ownBlock (.slice (some ⟨g, 0, none⟩) n cap))
      exact ⟨_, _, hr, hgr.1, hgr.2, fun j hj => Or.inr (by simp [rowOf, Value.ownBlock] at hj; omega)⟩

/-- an append of which it is known what it leaves: at the operation, at a plain region's list, at a step of a region that draws -/
theorem wp_app {P : Program} {w : World} {o : Oper} {a : Act} {K : Act → World → Prop} {Q : Exit → Act → World → Prop} (s x : Operand) (t u : TypeId)
    (ho : o.op = .call { callee := .builtin .append, args := #[s, x], argTypes := #[t, u] }) (vs vx : Value) (hs : a.eval s = vs) (hx : a.eval x = vx) {R : Value → World → Prop}
    (hr : ∃ v' w', (Builtin.append_ #[t, u] o.type #[vs, vx]).run P w = .ok v' w' ∧ R v' w') (h : ∀ v' w', R v' w' → K (a.put o.dst v') w') : o.wp P a w K Q := by
  obtain ⟨v', w', hr, h2⟩ := hr
  exact Lib.wp_append_run w s x t u ho vs vx hs hx v' w' hr (h v' w' h2)

theorem wpList_app {P : Program} {w : World} {ops : Array Oper} {rest : List Oper} {o : Oper} {a : Act} {Q : Exit → Act → World → Prop} (hgd : o.guard = none) (s x : Operand) (t u : TypeId)
    (ho : o.op = .call { callee := .builtin .append, args := #[s, x], argTypes := #[t, u] }) (vs vx : Value) (hs : a.eval s = vs) (hx : a.eval x = vx) {R : Value → World → Prop}
    (hr : ∃ v' w', (Builtin.append_ #[t, u] o.type #[vs, vx]).run P w = .ok v' w' ∧ R v' w') (h : ∀ v' w', R v' w' → wpList P ops Q rest (a.put o.dst v') w') : wpList P ops Q (o :: rest) a w :=
  wpList_plain hgd fun _ hK => wp_app s x t u ho vs vx hs hx hr fun v' w' h2 => hK _ _ (h v' w' h2)

theorem step_app {P : Program} {w : World} {ops : Array Oper} {o : Oper} {a : Act} {K : Act → World → Prop} {Q : Exit → Act → World → Prop} {E : Prop} (hgd : o.guard = none) (s x : Operand) (t u : TypeId)
    (ho : o.op = .call { callee := .builtin .append, args := #[s, x], argTypes := #[t, u] }) (vs vx : Value) (hs : a.eval s = vs) (hx : a.eval x = vx) {R : Value → World → Prop}
    (hr : ∃ v' w', (Builtin.append_ #[t, u] o.type #[vs, vx]).run P w = .ok v' w' ∧ R v' w') (h : ∀ v' w', R v' w' → K (a.put o.dst v') w') :
    if Region.wanted o (yielded ops a.tmps) = true then Oper.wp P o a w K Q else E := by
  have hw : Region.wanted o (yielded ops a.tmps) = true := by simp [Region.wanted, hgd]
  rw [if_pos hw]
  exact wp_app s x t u ho vs vx hs hx hr h

/-! ### a slice that is read -/

/-- the slice value v has n elements of 'size' cells each, and these are xs -/
def RdV (w : World) (v : Value) (n size : Nat) (xs : List Value) : Prop :=
  xs.length = n * size ∧ ∃ ao c, v = .slice ao n c ∧ n ≤ c ∧ (ao = none → n = 0 ∧ c = 0) ∧ ∀ a, ao = some a → ∀ j u, xs[j]? = some u → w.cell? (a.add j) = some u

/-- the block in which a slice that is not empty lies -/
def fpOf : Value → List Nat
  | .slice (some a) n _ => if n = 0 then [] else [a.block]
  | _ => []

theorem RdV.keep {F : List Nat} {w w' : World} {v : Value} {n size : Nat} {xs : List Value} (h : RdV w v n size xs) (k : Keep F w w') (hd : ∀ x ∈ fpOf v, x ∉ F) : RdV w' v n size xs := by
  obtain ⟨hl, ao, c, rfl, hc, hn, hx⟩ := h
  refine ⟨hl, ao, c, rfl, hc, hn, fun a ha j u hu => ?_⟩
  subst ha
  have hj := hx a rfl j u hu
  have hn0 : n ≠ 0 := by
    rintro rfl
    have := (List.getElem?_eq_some_iff.1 hu).1
    simp [hl] at this
  have hb : (a.add j).block = a.block := by unfold Addr.add; split <;> rfl
  rw [k.cell (World.block_lt_of_cell? w _ hj) (by rw [hb]; exact hd a.block (by simp [fpOf, hn0]))]
  exact hj

theorem RdV.lt {w : World} {v : Value} {n size : Nat} {xs : List Value} (h : RdV w v n size xs) (hs : 0 < size) : ∀ x ∈ fpOf v, x < w.heap.size := by
  obtain ⟨hl, ao, c, rfl, hc, hn, hx⟩ := h
  intro x hx'
  cases ao with
  | none => simp [fpOf] at hx'
  | some a =>
    by_cases h0 : n = 0
    · simp [fpOf, h0] at hx'
    · simp [fpOf, h0] at hx'
      subst hx'
      have hp : 0 < xs.length := by rw [hl]; exact Nat.mul_pos (by omega) hs
      have := hx a rfl 0 xs[0] (by simp)
      have := World.block_lt_of_cell? w _ this
      simpa [Addr.add] using this

theorem RdV.ofOwn {w : World} {base : Nat} {e : TypeId} {size : Nat} {v : Value} {n : Nat} {xs : List Value} (h : w.ownsRow base e size v n xs) : RdV w v n size xs := by
  refine ⟨h.1, ?_⟩
  have h0 := h
  rcases h.2 with ⟨rfl, rfl⟩ | ⟨g, cap, cur, rfl, _, _, hc, _⟩
  · exact ⟨none, 0, rfl, Nat.le_refl _, fun _ => ⟨rfl, rfl⟩, fun a ha => by cases ha⟩
  · exact ⟨some ⟨g, 0, none⟩, cap, rfl, hc, (fun h => by cases h), (fun a ha j u hu => by cases ha; exact h0.cells (g := g) rfl j u hu)⟩

theorem fpOf_rowOf {v : Value} {x : Nat} (h : x ∈ fpOf v) : x ∈ rowOf v := by
  unfold fpOf at h
  split at h
  · split at h
    · cases h
    · simpa [rowOf, Value.ownBlock] using h
  · cases h

theorem ownsRow_made0 (w : World) (e : TypeId) (size : Nat) : (w.alloc (.cells #[] e)).ownsRow 0 e size (.slice (some ⟨w.heap.size, 0, none⟩) 0 0) 0 [] :=
  World.ownsRow_made (base := 0) w #[] 0 (Nat.zero_le _) (by unfold maxLen; omega) (by simp)

end Go.Proofs.YtbmbjedpeepnfaaDoor
