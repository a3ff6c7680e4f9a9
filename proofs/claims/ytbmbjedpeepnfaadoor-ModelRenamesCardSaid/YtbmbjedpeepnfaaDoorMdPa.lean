/-
  Package model, plain: what every op keeps; counts; the tree; what a rename does; lists. No program in sight. No condition.
-/
import Derived.Test.YtbmbjedpeepnfaaDoorMdH
import Derived.Test.YtbmbjedpeepnfaaDoorNmL
import Derived.Sort.Walk0
import Derived.Sort.KeysCollected
/-
  Package model, plain: what every op keeps of a file system: entries lead to nodes, the root is a directory. No program in sight. No condition.
-/
namespace Go.Proofs.YtbmbjedpeepnfaaDoor
open Go.RowKit

namespace Md
theorem getElem?_setNd (s : St) (q : Nat) (f : Nd → Nd) (j : Nat) : (setNd s q f)[j]? = if q = j then (s[j]?).map f else s[j]? := by
  unfold setNd
  rw [List.getElem?_modify]
  by_cases e : q = j <;> simp [e]

theorem setNd_length (s : St) (q : Nat) (f : Nd → Nd) : (setNd s q f).length = s.length := by unfold setNd; simp

theorem mem_del {l : List (ByteArray × Nat)} {k : ByteArray} {p : ByteArray × Nat} (h : p ∈ del l k) : p ∈ l := (List.mem_filter.1 h).1

/-- a change of one node that keeps what it is, and whose entries lead to nodes -/
theorem Ok_setNd {s : St} (h : Ok s) (q : Nat) (f : Nd → Nd) (hd : ∀ nd, (f nd).dir = nd.dir) (he : ∀ nd, s[q]? = some nd → ∀ p ∈ (f nd).ents, p.2 < s.length) : Ok (setNd s q f) := by
  refine ⟨fun i nd hn p hp => ?_, by rw [setNd_length]; exact h.pos, ?_⟩
  · rw [setNd_length]
    rw [getElem?_setNd] at hn
    by_cases e : q = i
    · subst e
      rw [if_pos rfl] at hn
      cases hs : s[q]? with
      | none => rw [hs] at hn; cases hn
      | some md =>
        rw [hs] at hn
        simp only [Option.map_some, Option.some.injEq] at hn
        subst hn
        exact he md hs p hp
    · rw [if_neg e] at hn
      exact h.leads i nd hn p hp
  · have hr := h.root
    unfold isDir at hr ⊢
    rw [getElem?_setNd]
    cases hs : s[0]? with
    | none => rw [hs] at hr; cases hr
    | some md =>
      rw [hs] at hr
      by_cases e : q = 0
      · rw [if_pos e]; simp only [Option.map_some, hd]; exact hr
      · rw [if_neg e]; exact hr

theorem Ok_leave {s : St} (h : Ok s) (q : Nat) (x : ByteArray) : Ok (leave s q x) :=
  Ok_setNd h q _ (fun _ => rfl) (fun nd hn p hp => h.leads q nd hn p (mem_del hp))
theorem Ok_more {s : St} (h : Ok s) (i : Nat) (d : Int) : Ok (more s i d) :=
  Ok_setNd h i _ (fun _ => rfl) (fun nd hn p hp => h.leads i nd hn p hp)
theorem Ok_enter {s : St} (h : Ok s) (q : Nat) (x : ByteArray) {j : Nat} (hj : j < s.length) : Ok (enter s q x j) :=
  Ok_setNd h q _ (fun _ => rfl) (fun nd hn p hp => by
    rcases List.mem_cons.1 hp with rfl | hp
    · exact hj
    · exact h.leads q nd hn p (mem_del hp))

theorem Ok_push {s : St} (h : Ok s) (nd : Nd) (he : nd.ents = []) : Ok (s ++ [nd]) := by
  refine ⟨fun i md hn p hp => ?_, by simp, ?_⟩
  · rw [List.length_append]
    by_cases e : i < s.length
    · rw [List.getElem?_append_left e] at hn
      have := h.leads i md hn p hp
      omega
    · rw [List.getElem?_append_right (by omega)] at hn
      have hi : i - s.length = 0 := by
        have := (List.getElem?_eq_some_iff.1 hn).1
        simp at this
        omega
      rw [hi] at hn
      simp at hn
      subst hn
      rw [he] at hp
      cases hp
  · have hr := h.root
    unfold isDir at hr ⊢
    rw [List.getElem?_append_left h.pos]
    exact hr

theorem Ok_new : Ok new := by
  refine ⟨fun i nd hn p hp => ?_, by decide, rfl⟩
  have hi : i = 0 := by
    have := (List.getElem?_eq_some_iff.1 hn).1
    simp [new] at this
    exact this
  subst hi
  simp [new] at hn
  subst hn
  simp at hp

theorem Ok_create {s : St} (h : Ok s) (o : Op) : Ok (create s o).1 := by
  unfold create
  simp only
  split
  · split
    · exact h
    · rename_i q _ _
      exact Ok_enter (Ok_push h _ (by split <;> rfl)) q _ (by simp)
    · exact h
  · exact h

theorem Ok_unlink {s : St} (h : Ok s) (o : Op) : Ok (unlink s o).1 := by
  unfold unlink
  simp only
  split
  · exact Ok_more (Ok_leave h _ _) _ _
  · exact h

theorem Ok_rmdir {s : St} (h : Ok s) (o : Op) : Ok (rmdir s o).1 := by
  unfold rmdir
  simp only
  split
  · split
    · split
      · exact h
      · split
        · exact Ok_leave h _ _
        · exact h
    · exact h
  · exact h

theorem file_lt {s : St} (h : Ok s) {path : ByteArray} {i : Nat} (e : (file s path).1 = some i) : i < s.length := by
  have ht := there_ok h.leads h.pos path
  unfold file at e
  cases c : (there s path).1.is' with
  | none => simp only [c] at e; cases e
  | some j =>
    simp only [c] at e
    split at e
    · injection e with e; subst e; exact ht.lt _ c
    · injection e with e; subst e; exact ht.lt _ c

theorem Ok_link {s : St} (h : Ok s) (o : Op) : Ok (link s o).1 := by
  unfold link
  simp only
  split
  · rename_i i e _
    split
    · split
      · exact h
      · split
        · exact h
        · exact Ok_enter (Ok_more h _ _) _ _ (by unfold more; rw [setNd_length]; exact file_lt h e)
      · exact h
    · exact h
  · exact h

theorem Ok_write {s : St} (h : Ok s) (o : Op) : Ok (write s o).1 := by
  unfold write
  simp only
  split
  · split
    · exact h
    · exact Ok_setNd h _ _ (fun _ => rfl) (fun nd hn p hp => h.leads _ nd hn p hp)
  · exact h

theorem Ok_truncate {s : St} (h : Ok s) (o : Op) : Ok (truncate s o).1 := by
  unfold truncate
  simp only
  split
  · exact Ok_setNd h _ _ (fun _ => rfl) (fun nd hn p hp => h.leads _ nd hn p hp)
  · exact h

theorem Ok_rename {s : St} (h : Ok s) (o : Op) : Ok (rename s o).1 := by
  have hf := there_ok h.leads h.pos o.path
  unfold rename
  simp only
  split
  · exact h
  · split
    · exact h
    · split
      · rename_i i q r e _ _
        have hi := hf.lt i e
        split
        · exact h
        · split
          · split
            · exact h
            · split
              · exact h
              · exact Ok_enter (Ok_leave (Ok_more h _ _) _ _) _ _ (by unfold leave more; rw [setNd_length, setNd_length]; exact hi)
          · exact Ok_enter (Ok_leave h _ _) _ _ (by unfold leave; rw [setNd_length]; exact hi)
      · exact h

theorem Ok_step {s : St} (h : Ok s) (o : Op) : Ok (step s o).1 := by
  unfold step
  by_cases c : paths o ≠ 0
  · rw [if_pos c]; exact h
  rw [if_neg c]
  clear c
  by_cases c : numbers o ≠ 0
  · rw [if_pos c]; exact h
  rw [if_neg c]
  clear c
  by_cases c : o.kind = 1
  · rw [if_pos c]; exact h
  rw [if_neg c]
  clear c
  by_cases c : o.kind = 2
  · rw [if_pos c]; exact h
  rw [if_neg c]
  clear c
  by_cases c : o.kind = 3
  · rw [if_pos c]; exact h
  rw [if_neg c]
  clear c
  by_cases c : o.kind = 4
  · rw [if_pos c]; exact Ok_write h o
  rw [if_neg c]
  clear c
  by_cases c : o.kind = 11
  · rw [if_pos c]; exact Ok_truncate h o
  rw [if_neg c]
  clear c
  by_cases c : o.kind = 5 ∨ o.kind = 6
  · rw [if_pos c]; exact Ok_create h o
  rw [if_neg c]
  clear c
  by_cases c : o.kind = 7
  · rw [if_pos c]; exact Ok_unlink h o
  rw [if_neg c]
  clear c
  by_cases c : o.kind = 8
  · rw [if_pos c]; exact Ok_rmdir h o
  rw [if_neg c]
  clear c
  by_cases c : o.kind = 10
  · rw [if_pos c]; exact Ok_link h o
  rw [if_neg c]
  clear c
  by_cases c : o.kind = 9
  · rw [if_pos c]; exact Ok_rename h o
  rw [if_neg c]
  clear c
  exact h

theorem Ok_steps {s : St} (h : Ok s) : ∀ l : List Op, Ok (steps s l)
  | [] => h
  | o :: l => Ok_steps (Ok_step h o) l
end Md
end Go.Proofs.YtbmbjedpeepnfaaDoor

/-
  Package model, plain: how large a file system can be after some ops: entries, links, bytes; and no name twice. No program in sight. No condition.
-/
namespace Go.Proofs.YtbmbjedpeepnfaaDoor
open Go.RowKit

namespace Md
/-- a node after c ops -/
structure NdBd (c : Nat) (nd : Nd) : Prop where
  ents : nd.ents.length ≤ c
  lo : -(c : Int) ≤ nd.links
  hi : nd.links ≤ c + 1
  data : nd.data.length ≤ 1048576
  dk : Dk nd.ents
  dir : nd.dir = false → nd.ents = []

def Bd (c : Nat) (s : St) : Prop := ∀ (i : Nat) (nd : Nd), s[i]? = some nd → NdBd c nd

theorem NdBd.mono {c d : Nat} (h : c ≤ d) {nd : Nd} (b : NdBd c nd) : NdBd d nd :=
  ⟨Nat.le_trans b.ents h, by have := b.lo; omega, by have := b.hi; omega, b.data, b.dk, b.dir⟩
theorem Bd.mono {c d : Nat} (h : c ≤ d) {s : St} (b : Bd c s) : Bd d s := fun i nd hn => (b i nd hn).mono h

theorem Bd.setNd {c d : Nat} {s : St} (b : Bd c s) (h : c ≤ d) (q : Nat) (f : Nd → Nd) (hf : ∀ nd, s[q]? = some nd → NdBd c nd → NdBd d (f nd)) : Bd d (setNd s q f) := fun i nd hn => by
  rw [getElem?_setNd] at hn
  by_cases e : q = i
  · subst e
    rw [if_pos rfl] at hn
    cases hs : s[q]? with
    | none => rw [hs] at hn; cases hn
    | some md =>
      rw [hs] at hn
      simp only [Option.map_some, Option.some.injEq] at hn
      subst hn
      exact hf md hs (b q md hs)
  · rw [if_neg e] at hn
    exact (b i nd hn).mono h

theorem del_le (l : List (ByteArray × Nat)) (k : ByteArray) : (del l k).length ≤ l.length := List.length_filter_le _ _

theorem Bd.leave {c : Nat} {s : St} (b : Bd c s) (q : Nat) (x : ByteArray) : Bd c (leave s q x) :=
  b.setNd (Nat.le_refl _) q _ (fun nd _ h => ⟨Nat.le_trans (del_le _ _) h.ents, h.lo, h.hi, h.data, h.dk.del x, fun e => by show del nd.ents x = []; rw [h.dir e]; rfl⟩)

theorem Bd.enter {c : Nat} {s : St} (b : Bd c s) {q : Nat} (hq : isDir s q = true) (x : ByteArray) (j : Nat) : Bd (c + 1) (enter s q x j) :=
  b.setNd (Nat.le_succ _) q _ (fun nd hn h => ⟨by show (put nd.ents x j).length ≤ _; have := del_le nd.ents x; have := h.ents; simp only [put, List.length_cons]; omega, (h.mono (Nat.le_succ c)).lo, (h.mono (Nat.le_succ c)).hi, h.data, h.dk.put x j, fun e => by
    unfold isDir at hq; rw [hn] at hq; exact absurd (hq.symm.trans e) (by decide)⟩)

theorem Bd.more {c : Nat} {s : St} (b : Bd c s) (i : Nat) {d : Int} (h1 : -1 ≤ d) (h2 : d ≤ 1) : Bd (c + 1) (more s i d) :=
  b.setNd (Nat.le_succ _) i _ (fun nd _ h => ⟨Nat.le_succ_of_le h.ents, by have := h.lo; show _ ≤ nd.links + d; omega, by have := h.hi; show nd.links + d ≤ _; omega, h.data, h.dk, h.dir⟩)

theorem Bd.push {c : Nat} {s : St} (b : Bd c s) {nd : Nd} (h : NdBd c nd) : Bd c (s ++ [nd]) := fun i md hn => by
  by_cases e : i < s.length
  · rw [List.getElem?_append_left e] at hn
    exact b i md hn
  · rw [List.getElem?_append_right (by omega)] at hn
    have hi : i - s.length = 0 := by
      have := (List.getElem?_eq_some_iff.1 hn).1
      simp at this
      omega
    rw [hi] at hn
    simp at hn
    subst hn
    exact h

theorem isDir_setNd {s : St} {i q : Nat} {f : Nd → Nd} (hd : ∀ nd, (f nd).dir = nd.dir) : isDir (setNd s i f) q = isDir s q := by
  unfold isDir
  rw [getElem?_setNd]
  by_cases e : i = q
  · rw [if_pos e]
    cases s[q]? with
    | none => rfl
    | some nd => exact hd nd
  · rw [if_neg e]

theorem isDir_more (s : St) (i : Nat) (d : Int) (q : Nat) : isDir (more s i d) q = isDir s q := isDir_setNd (fun _ => rfl)
theorem isDir_leave (s : St) (i : Nat) (x : ByteArray) (q : Nat) : isDir (leave s i x) q = isDir s q := isDir_setNd (fun _ => rfl)
theorem isDir_enter (s : St) (i : Nat) (x : ByteArray) (v q : Nat) : isDir (enter s i x v) q = isDir s q := isDir_setNd (fun _ => rfl)

theorem isDir_push {s : St} {nd : Nd} {q : Nat} (h : isDir s q = true) : isDir (s ++ [nd]) q = true := by
  obtain ⟨md, hm, hd⟩ := isDir_lt h
  unfold isDir
  rw [List.getElem?_append_left (List.getElem?_eq_some_iff.1 hm).1, hm]
  exact hd

theorem walk_par {s : St} (k : Ok s) (path : ByteArray) {q : Nat} (h : (walk s path).1.parent = some q) : isDir s q = true := ((walk_ok k.leads k.pos path).par q h).1
theorem there_par {s : St} (k : Ok s) (path : ByteArray) {q : Nat} (h : (there s path).1.parent = some q) : isDir s q = true := ((there_ok k.leads k.pos path).par q h).1

theorem Bd_create {c : Nat} {s : St} (b : Bd c s) (k : Ok s) (o : Op) : Bd (c + 1) (create s o).1 := by
  have hp := @walk_par s k o.path
  unfold create
  simp only
  split
  · split
    · exact b.mono (Nat.le_succ c)
    · rename_i q _ e
      refine Bd.enter (b.push ?_) (isDir_push (hp e)) _ _
      split
      · exact ⟨by simp, by show -(c : Int) ≤ 0; omega, by show (0 : Int) ≤ c + 1; omega, by simp, List.Pairwise.nil, fun _ => rfl⟩
      · exact ⟨by simp, by show -(c : Int) ≤ 1; omega, by show (1 : Int) ≤ c + 1; omega, by simp, List.Pairwise.nil, fun _ => rfl⟩
    · exact b.mono (Nat.le_succ c)
  · exact b.mono (Nat.le_succ c)

theorem Bd_unlink {c : Nat} {s : St} (b : Bd c s) (o : Op) : Bd (c + 1) (unlink s o).1 := by
  unfold unlink
  simp only
  split
  · exact (b.leave _ _).more _ (by decide) (by decide)
  · exact b.mono (Nat.le_succ c)

theorem Bd_rmdir {c : Nat} {s : St} (b : Bd c s) (o : Op) : Bd (c + 1) (rmdir s o).1 := by
  unfold rmdir
  simp only
  split
  · split
    · split
      · exact b.mono (Nat.le_succ c)
      · split
        · exact (b.leave _ _).mono (Nat.le_succ c)
        · exact b.mono (Nat.le_succ c)
    · exact b.mono (Nat.le_succ c)
  · exact b.mono (Nat.le_succ c)

theorem Bd_link {c : Nat} {s : St} (b : Bd c s) (k : Ok s) (o : Op) : Bd (c + 2) (link s o).1 := by
  have hp := @walk_par s k o.to'
  unfold link
  simp only
  split
  · split
    · split
      · exact b.mono (by omega)
      · rename_i q _ e
        split
        · exact b.mono (by omega)
        · exact (b.more _ (by decide) (by decide)).enter (by rw [isDir_more]; exact hp e) _ _
      · exact b.mono (by omega)
    · exact b.mono (by omega)
  · exact b.mono (by omega)

theorem Bd_rename {c : Nat} {s : St} (b : Bd c s) (k : Ok s) (o : Op) : Bd (c + 2) (rename s o).1 := by
  have hp := @walk_par s k o.to'
  unfold rename
  simp only
  split
  · exact b.mono (by omega)
  · split
    · exact b.mono (by omega)
    · split
      · rename_i i q r _ _ e
        split
        · exact b.mono (by omega)
        · split
          · split
            · exact b.mono (by omega)
            · split
              · exact b.mono (by omega)
              · exact ((b.more _ (by decide) (by decide)).leave _ _).enter (by rw [isDir_leave, isDir_more]; exact hp e) _ _
          · exact ((b.leave _ _).enter (by rw [isDir_leave]; exact hp e) _ _).mono (by omega)
      · exact b.mono (by omega)

theorem grown_length (d : List UInt8) (n : Nat) : (grown d n).length = max d.length n := by unfold grown; simp; omega
theorem over_length {d x : List UInt8} {off : Nat} (h : off + x.length ≤ d.length) : (over d off x).length = d.length := by
  unfold over; simp; omega

theorem first_zero {a b : Bool} (h : first a b = 0) : a = false ∧ b = false := by
  cases a <;> cases b <;> simp_all [first]

theorem numbers_write {o : Op} (h : numbers o = 0) (hk : o.kind = 4) : 0 ≤ o.off ∧ o.off + o.data.size ≤ 1048576 ∧ o.data.size ≤ 4096 := by
  unfold numbers at h
  rw [if_neg (by omega), if_pos hk] at h
  have := first_zero h
  simp at this
  omega

theorem numbers_truncate {o : Op} (h : numbers o = 0) (hk : o.kind = 11) : 0 ≤ o.n ∧ o.n ≤ 1048576 := by
  unfold numbers at h
  rw [if_neg (by omega), if_neg (by omega), if_pos hk] at h
  have := first_zero h
  simp at this
  omega

theorem numbers_read {o : Op} (h : numbers o = 0) (hk : o.kind = 3) : 0 ≤ o.off ∧ 0 ≤ o.n ∧ o.n ≤ 4096 := by
  unfold numbers at h
  rw [if_pos hk] at h
  have := first_zero h
  simp at this
  omega

theorem Bd_write {c : Nat} {s : St} (b : Bd c s) (o : Op) (h0 : 0 ≤ o.off) (h1 : o.off + o.data.size ≤ 1048576) : Bd c (write s o).1 := by
  unfold write
  simp only
  split
  · split
    · exact b
    · refine b.setNd (Nat.le_refl _) _ _ (fun nd _ h => ⟨h.ents, h.lo, h.hi, ?_, h.dk, h.dir⟩)
      have hs : o.data.data.toList.length = o.data.size := rfl
      show (over _ _ _).length ≤ _
      rw [over_length (by rw [grown_length, hs]; omega), grown_length]
      have := h.data
      omega
  · exact b

theorem Bd_truncate {c : Nat} {s : St} (b : Bd c s) (o : Op) (h1 : o.n ≤ 1048576) : Bd c (truncate s o).1 := by
  unfold truncate
  simp only
  split
  · refine b.setNd (Nat.le_refl _) _ _ (fun nd _ h => ⟨h.ents, h.lo, h.hi, ?_, h.dk, h.dir⟩)
    show (List.take _ _).length ≤ _
    rw [List.length_take]
    omega
  · exact b

theorem Bd_step {c : Nat} {s : St} (b : Bd c s) (k : Ok s) (o : Op) : Bd (c + 2) (step s o).1 := by
  have b2 : Bd (c + 2) s := b.mono (by omega)
  unfold step
  by_cases p : paths o ≠ 0
  · rw [if_pos p]; exact b2
  rw [if_neg p]
  clear p
  by_cases pn : numbers o ≠ 0
  · rw [if_pos pn]; exact b2
  rw [if_neg pn]
  have hn : numbers o = 0 := Decidable.not_not.1 pn
  clear pn
  by_cases p : o.kind = 1
  · rw [if_pos p]; exact b2
  rw [if_neg p]
  clear p
  by_cases p : o.kind = 2
  · rw [if_pos p]; exact b2
  rw [if_neg p]
  clear p
  by_cases p : o.kind = 3
  · rw [if_pos p]; exact b2
  rw [if_neg p]
  clear p
  by_cases p : o.kind = 4
  · rw [if_pos p]
    have := numbers_write hn p
    exact (Bd_write b o this.1 this.2.1).mono (by omega)
  rw [if_neg p]
  clear p
  by_cases p : o.kind = 11
  · rw [if_pos p]; exact (Bd_truncate b o (numbers_truncate hn p).2).mono (by omega)
  rw [if_neg p]
  clear p
  by_cases p : o.kind = 5 ∨ o.kind = 6
  · rw [if_pos p]; exact (Bd_create b k o).mono (by omega)
  rw [if_neg p]
  clear p
  by_cases p : o.kind = 7
  · rw [if_pos p]; exact (Bd_unlink b o).mono (by omega)
  rw [if_neg p]
  clear p
  by_cases p : o.kind = 8
  · rw [if_pos p]; exact (Bd_rmdir b o).mono (by omega)
  rw [if_neg p]
  clear p
  by_cases p : o.kind = 10
  · rw [if_pos p]; exact Bd_link b k o
  rw [if_neg p]
  clear p
  by_cases p : o.kind = 9
  · rw [if_pos p]; exact Bd_rename b k o
  rw [if_neg p]
  exact b2

theorem Bd_new : Bd 0 new := fun i nd hn => by
  have hi : i = 0 := by
    have := (List.getElem?_eq_some_iff.1 hn).1
    simp [new] at this
    exact this
  subst hi
  simp [new] at hn
  subst hn
  exact ⟨by simp, by simp, by simp, by simp, List.Pairwise.nil, fun _ => rfl⟩

theorem Bd_steps : ∀ (l : List Op) {c : Nat} {s : St}, Bd c s → Ok s → Bd (c + 2 * l.length) (steps s l)
  | [], _, _, b, _ => b
  | o :: l, c, s, b, k => by
    have := Bd_steps l (Bd_step b k o) (Ok_step k o)
    refine Bd.mono ?_ this
    simp only [List.length_cons]; omega

theorem Bd.few {c : Nat} {s : St} (b : Bd c s) (h : c < 1000000) : Few s := fun i nd hn => by
  have := b i nd hn
  have := this.lo
  have := (b i nd hn).hi
  omega

theorem Bd.sz {c : Nat} {s : St} (b : Bd c s) (h : c < 1000000) (q : Nat) : (entsOf s q).length < 1000000 := by
  unfold entsOf
  cases e : s[q]? with
  | none => simp
  | some nd => have := (b q nd e).ents; show nd.ents.length < _; omega
end Md
end Go.Proofs.YtbmbjedpeepnfaaDoor

/-
  Package model, plain: a file has as many links as entries lead to it; how many entries there are. No program in sight. No condition.
-/
namespace Go.Proofs.YtbmbjedpeepnfaaDoor
open Go.RowKit

namespace Md
def tot (f : Nd → Nat) : St → Nat
  | [] => 0
  | nd :: s => f nd + tot f s

theorem tot_setNd {f : Nd → Nat} {g : Nd → Nd} : ∀ {s : St} {q : Nat} {nd : Nd}, s[q]? = some nd → tot f (setNd s q g) + f nd = tot f s + f (g nd)
  | [], _, _, h => by simp at h
  | x :: s, 0, nd, h => by
    simp at h
    subst h
    show f (g x) + tot f s + f x = f x + tot f s + f (g x)
    omega
  | x :: s, q + 1, nd, h => by
    have h' : s[q]? = some nd := by simpa using h
    have ih := tot_setNd (f := f) (g := g) h'
    have e : setNd (x :: s) (q + 1) g = x :: setNd s q g := by unfold setNd; simp
    rw [e]
    show f x + tot f (setNd s q g) + f nd = f x + tot f s + f (g nd)
    omega

theorem tot_push (f : Nd → Nat) (s : St) (nd : Nd) : tot f (s ++ [nd]) = tot f s + f nd := by
  induction s with
  | nil => show f nd + 0 = 0 + f nd; omega
  | cons x s ih => show f x + tot f (s ++ [nd]) = f x + tot f s + f nd; omega

theorem tot_zero {f : Nd → Nat} : ∀ {s : St}, (∀ (i : Nat) (nd : Nd), s[i]? = some nd → f nd = 0) → tot f s = 0
  | [], _ => rfl
  | x :: s, h => by
    have h1 := h 0 x (by simp)
    have h2 := tot_zero (f := f) (s := s) (fun i nd hn => h (i + 1) nd (by simpa using hn))
    show f x + tot f s = 0
    omega

theorem tot_ge {f : Nd → Nat} : ∀ {s : St} {q : Nat} {nd : Nd}, s[q]? = some nd → f nd ≤ tot f s
  | [], _, _, h => by simp at h
  | x :: s, 0, nd, h => by
    simp at h
    subst h
    show f x ≤ f x + tot f s
    omega
  | x :: s, q + 1, nd, h => by
    have h' : s[q]? = some nd := by simpa using h
    have ih := tot_ge (f := f) h'
    show f nd ≤ f x + tot f s
    omega

/-- entries that lead to i -/
def to1 (i : Nat) (l : List (ByteArray × Nat)) : Nat := (l.filter fun p => decide (p.2 = i)).length
def cnt (s : St) (i : Nat) : Nat := tot (fun nd => to1 i nd.ents) s
/-- all entries -/
def all (s : St) : Nat := tot (fun nd => nd.ents.length) s

theorem to1_cons (i : Nat) (p : ByteArray × Nat) (l : List (ByteArray × Nat)) : to1 i (p :: l) = (if p.2 = i then 1 else 0) + to1 i l := by
  unfold to1
  rw [List.filter_cons]
  by_cases h : p.2 = i
  · simp [h]; omega
  · simp [h]

theorem to1_del {l : List (ByteArray × Nat)} (d : Dk l) (i : Nat) (x : ByteArray) : to1 i (del l x) + (if look l x = some i then 1 else 0) = to1 i l := by
  induction l with
  | nil => rfl
  | cons p l ih =>
    obtain ⟨d1, d2⟩ := List.pairwise_cons.1 d
    have ih := ih d2
    have hl : look (p :: l) x = if p.1 = x then some p.2 else look l x := rfl
    have hd : del (p :: l) x = if p.1 = x then del l x else p :: del l x := by
      unfold del
      rw [List.filter_cons]
      by_cases h : p.1 = x <;> simp [h]
    rw [hl, hd, to1_cons]
    by_cases h : p.1 = x
    · have hn : look l x = none := look_none.2 (fun q hq => by rw [← h]; exact (d1 q hq).symm)
      rw [hn] at ih
      rw [if_pos h, if_pos h]
      simp at ih ⊢
      omega
    · rw [if_neg h, if_neg h, to1_cons]
      omega

theorem to1_put {l : List (ByteArray × Nat)} (d : Dk l) (i : Nat) (x : ByteArray) (v : Nat) : to1 i (put l x v) + (if look l x = some i then 1 else 0) = to1 i l + (if v = i then 1 else 0) := by
  have := to1_del d i x
  unfold put
  rw [to1_cons]
  show (if v = i then 1 else 0) + _ + _ = _
  omega

theorem cnt_leave {s : St} {q : Nat} {nd : Nd} (h : s[q]? = some nd) (d : Dk nd.ents) (x : ByteArray) (i : Nat) : cnt (leave s q x) i + (if look nd.ents x = some i then 1 else 0) = cnt s i := by
  have h1 := tot_setNd (f := fun nd => to1 i nd.ents) (g := fun nd => { nd with ents := del nd.ents x }) h
  have h2 := to1_del d i x
  unfold cnt leave
  simp only at h1
  omega

theorem cnt_enter {s : St} {q : Nat} {nd : Nd} (h : s[q]? = some nd) (d : Dk nd.ents) (x : ByteArray) (v i : Nat) : cnt (enter s q x v) i + (if look nd.ents x = some i then 1 else 0) = cnt s i + (if v = i then 1 else 0) := by
  have h1 := tot_setNd (f := fun nd => to1 i nd.ents) (g := fun nd => { nd with ents := put nd.ents x v }) h
  have h2 := to1_put d i x v
  unfold cnt enter
  simp only at h1
  omega

theorem tot_same {f : Nd → Nat} {g : Nd → Nd} {s : St} {q : Nat} (hg : ∀ nd, f (g nd) = f nd) : tot f (setNd s q g) = tot f s := by
  cases h : s[q]? with
  | none =>
    have : setNd s q g = s := by
      apply List.ext_getElem?
      intro j
      rw [getElem?_setNd]
      by_cases e : q = j
      · subst e; rw [if_pos rfl, h]; rfl
      · rw [if_neg e]
    rw [this]
  | some nd =>
    have := tot_setNd (f := f) (g := g) h
    rw [hg] at this
    omega

theorem cnt_more (s : St) (j : Nat) (d : Int) (i : Nat) : cnt (more s j d) i = cnt s i := tot_same (fun _ => rfl)

theorem cnt_push {s : St} {nd : Nd} (h : nd.ents = []) (i : Nat) : cnt (s ++ [nd]) i = cnt s i := by
  unfold cnt
  rw [tot_push, h]
  rfl

/-- nobody leads to what is not there -/
theorem cnt_out {s : St} (k : Leads s) {i : Nat} (h : s.length ≤ i) : cnt s i = 0 := by
  refine tot_zero (fun j nd hn => ?_)
  unfold to1
  rw [List.length_eq_zero_iff, List.filter_eq_nil_iff]
  intro p hp
  have := k j nd hn p hp
  simp
  omega

/-- who is led to is counted -/
theorem cnt_pos {s : St} {q : Nat} {nd : Nd} {x : ByteArray} {i : Nat} (h : s[q]? = some nd) (hl : look nd.ents x = some i) : 0 < cnt s i := by
  have h1 := tot_ge (f := fun nd => to1 i nd.ents) h
  have h2 : 0 < to1 i nd.ents := by
    unfold to1
    refine List.length_pos_of_mem (a := (x, i)) (List.mem_filter.2 ⟨look_mem hl, by simp⟩)
  unfold cnt
  omega

/-- links are right -/
def Cnt (s : St) : Prop := ∀ (i : Nat) (nd : Nd), s[i]? = some nd → nd.dir = false → nd.links = cnt s i

/-- how a node is found again behind a change of entries -/
theorem get_setNd {s : St} {q j : Nat} {f : Nd → Nd} {nd : Nd} (hn : (setNd s q f)[j]? = some nd) : ∃ md, s[j]? = some md ∧ nd = (if q = j then f md else md) := by
  rw [getElem?_setNd] at hn
  by_cases e : q = j
  · rw [if_pos e] at hn
    cases hs : s[j]? with
    | none => rw [hs] at hn; cases hn
    | some md =>
      rw [hs] at hn
      simp only [Option.map_some, Option.some.injEq] at hn
      exact ⟨md, rfl, by rw [if_pos e]; exact hn.symm⟩
  · rw [if_neg e] at hn
    exact ⟨nd, hn, by rw [if_neg e]⟩

theorem get_leave {s : St} {q j : Nat} {x : ByteArray} {nd : Nd} (hn : (leave s q x)[j]? = some nd) : ∃ md, s[j]? = some md ∧ nd.dir = md.dir ∧ nd.links = md.links := by
  obtain ⟨md, h1, h2⟩ := get_setNd hn
  refine ⟨md, h1, ?_, ?_⟩ <;> (rw [h2]; split <;> rfl)
theorem get_enter {s : St} {q j v : Nat} {x : ByteArray} {nd : Nd} (hn : (enter s q x v)[j]? = some nd) : ∃ md, s[j]? = some md ∧ nd.dir = md.dir ∧ nd.links = md.links := by
  obtain ⟨md, h1, h2⟩ := get_setNd hn
  refine ⟨md, h1, ?_, ?_⟩ <;> (rw [h2]; split <;> rfl)
theorem get_more {s : St} {i j : Nat} {d : Int} {nd : Nd} (hn : (more s i d)[j]? = some nd) : ∃ md, s[j]? = some md ∧ nd.dir = md.dir ∧ nd.links = md.links + (if i = j then d else 0) := by
  obtain ⟨md, h1, h2⟩ := get_setNd hn
  refine ⟨md, h1, ?_, ?_⟩
  · rw [h2]; split <;> rfl
  · rw [h2]; split
    · rfl
    · omega

theorem entsOf_get {s : St} {q : Nat} {nd : Nd} (h : s[q]? = some nd) : entsOf s q = nd.ents := by unfold entsOf; rw [h]

theorem Cnt_create {c : Nat} {s : St} (h : Cnt s) (b : Bd c s) (k : Ok s) (o : Op) : Cnt (create s o).1 := by
  have hok := walk_ok k.leads k.pos o.path
  unfold create
  simp only
  split
  · split
    · exact h
    · rename_i q hi hq
      obtain ⟨hd, hlk, _⟩ := hok.par q hq
      obtain ⟨qd, hqn, _⟩ := isDir_lt hd
      have hql : q < s.length := (List.getElem?_eq_some_iff.1 hqn).1
      rw [hi, entsOf_get hqn] at hlk
      show Cnt (enter _ _ _ _)
      intro j nd hn hf
      obtain ⟨md, h1, h2, h3⟩ := get_enter hn
      rw [h3]
      have hq' : ∀ x : Nd, (s ++ [x])[q]? = some qd := fun x => by rw [List.getElem?_append_left hql]; exact hqn
      have hc := cnt_enter (hq' (if o.kind = 6 then ⟨true, [], [], 0⟩ else ⟨false, [], [], 1⟩)) (b q qd hqn).dk (walk s o.path).1.name s.length j
      rw [← hlk] at hc
      simp only [reduceCtorEq, if_false] at hc
      rw [cnt_push (by split <;> rfl)] at hc
      by_cases e : j < s.length
      · rw [List.getElem?_append_left e] at h1
        rw [if_neg (show ¬ s.length = j by omega)] at hc
        rw [h j md h1 (by rw [← h2]; exact hf)]
        omega
      · rw [List.getElem?_append_right (by omega)] at h1
        have hj : j = s.length := by
          have := (List.getElem?_eq_some_iff.1 h1).1
          simp at this
          omega
        subst hj
        simp at h1
        have h0 := cnt_out k.leads (Nat.le_refl s.length)
        rw [if_pos rfl, h0, Nat.add_zero, Nat.zero_add] at hc
        rw [hc]
        rw [h2, ← h1] at hf
        rw [← h1]
        split at hf
        · cases hf
        · rename_i e6
          rw [if_neg e6]
          rfl
    · exact h
  · exact h

theorem Cnt_leave_dir {c : Nat} {s : St} (h : Cnt s) (b : Bd c s) {q : Nat} {qd : Nd} {x : ByteArray} {i : Nat} (hq : s[q]? = some qd) (hl : look qd.ents x = some i) (hd : isDir s i = true) : Cnt (leave s q x) := by
  intro j nd hn hf
  obtain ⟨md, h1, h2, h3⟩ := get_leave hn
  have hc := cnt_leave hq (b q qd hq).dk x j
  have hij : i ≠ j := fun e => by
    subst e
    unfold isDir at hd
    rw [h1] at hd
    rw [h2] at hf
    exact absurd (hd.symm.trans hf) (by decide)
  rw [hl, if_neg (fun e => hij (by injection e))] at hc
  rw [h3, h j md h1 (by rw [← h2]; exact hf)]
  omega

theorem file_parts {s : St} (k : Ok s) {path : ByteArray} {i q : Nat} (h0 : (file s path).2 = 0) (hi : (file s path).1 = some i) (hq : (walk s path).1.parent = some q) :
    ∃ qd, s[q]? = some qd ∧ qd.dir = true ∧ look qd.ents (walk s path).1.name = some i ∧ isDir s i = false := by
  obtain ⟨i', q', e1, e2, e3, _, e5, _⟩ := file_walk k (file s path) rfl h0
  rw [hi] at e1
  injection e1 with e1
  subst e1
  rw [hq] at e2
  injection e2 with e2
  subst e2
  have hok := walk_ok k.leads k.pos path
  obtain ⟨hd, hlk, _⟩ := hok.par q hq
  obtain ⟨qd, hqn, hqd⟩ := isDir_lt hd
  rw [entsOf_get hqn] at hlk
  refine ⟨qd, hqn, hqd, ?_, e3⟩
  rw [← hlk]
  have hs := there_some s path
  unfold file at h0 hi
  cases e : (there s path).1.is' with
  | none => simp only [e] at hi; cases hi
  | some i2 =>
    simp only [e] at h0 hi
    by_cases c : (there s path).2 = 0 ∧ isDir s i2 = true
    · rw [if_pos c] at h0
      exact absurd (show (5 : Int) = 0 from h0) (by decide)
    · rw [if_neg c] at h0 hi
      have hw := there_walk (show (there s path).2 = 0 from h0)
      rw [hw] at e
      rw [e]
      exact hi

theorem Cnt_unlink {c : Nat} {s : St} (h : Cnt s) (b : Bd c s) (k : Ok s) (o : Op) : Cnt (unlink s o).1 := by
  unfold unlink
  simp only
  split
  · rename_i i q hi hq h0
    obtain ⟨qd, hqn, _, hlk, _⟩ := file_parts k (of_decide_eq_true h0) hi hq
    show Cnt (more _ _ _)
    intro j nd hn hf
    obtain ⟨md, h1, h2, h3⟩ := get_more hn
    obtain ⟨md', g1, g2, g3⟩ := get_leave h1
    have hc := cnt_leave hqn (b q qd hqn).dk (walk s o.path).1.name j
    rw [hlk] at hc
    have hj := h j md' g1 (by rw [← g2, ← h2]; exact hf)
    rw [cnt_more, h3, g3, hj]
    by_cases e : i = j
    · rw [if_pos (by rw [e])] at hc; rw [if_pos e]; omega
    · rw [if_neg (fun x => e (by injection x))] at hc; rw [if_neg e]; omega
  · exact h

theorem Cnt_rmdir {c : Nat} {s : St} (h : Cnt s) (b : Bd c s) (k : Ok s) (o : Op) : Cnt (rmdir s o).1 := by
  have hok := there_ok k.leads k.pos o.path
  unfold rmdir
  simp only
  split
  · split
    · rename_i i q hi hq
      split
      · exact h
      · rename_i hd
        split
        · obtain ⟨hqd, hlk, _⟩ := hok.par q hq
          obtain ⟨qd, hqn, _⟩ := isDir_lt hqd
          rw [entsOf_get hqn, hi] at hlk
          exact Cnt_leave_dir h b hqn hlk.symm (by simpa using hd)
        · exact h
    · exact h
  · exact h

theorem Cnt_link {c : Nat} {s : St} (h : Cnt s) (b : Bd c s) (k : Ok s) (o : Op) : Cnt (link s o).1 := by
  have hok := walk_ok k.leads k.pos o.to'
  unfold link
  simp only
  split
  · rename_i i _ _
    split
    · split
      · exact h
      · rename_i q hi hq
        split
        · exact h
        · obtain ⟨hqd, hlk, _⟩ := hok.par q hq
          obtain ⟨qd, hqn, _⟩ := isDir_lt hqd
          rw [entsOf_get hqn, hi] at hlk
          show Cnt (enter _ _ _ _)
          intro j nd hn hf
          obtain ⟨md, h1, h2, h3⟩ := get_enter hn
          obtain ⟨md', g1, g2, g3⟩ := get_more h1
          obtain ⟨qd', hqn', hqe⟩ : ∃ qd', (more s i 1)[q]? = some qd' ∧ qd'.ents = qd.ents := by
            unfold more
            rw [getElem?_setNd, hqn]
            by_cases e : i = q
            · rw [if_pos e]; exact ⟨_, rfl, rfl⟩
            · rw [if_neg e]; exact ⟨_, rfl, rfl⟩
          have hc := cnt_enter hqn' (by rw [hqe]; exact (b q qd hqn).dk) (walk s o.to').1.name i j
          rw [hqe, ← hlk, cnt_more] at hc
          simp only [reduceCtorEq, if_false] at hc
          have hj := h j md' g1 (by rw [← g2, ← h2]; exact hf)
          rw [h3, g3, hj]
          by_cases e : i = j
          · rw [if_pos e] at hc ⊢; omega
          · rw [if_neg e] at hc ⊢; omega
      · exact h
    · exact h
  · exact h

theorem get_ents {s : St} {q : Nat} {nd : Nd} (h : s[q]? = some nd) (i : Nat) (d : Int) : ∃ md, (more s i d)[q]? = some md ∧ md.ents = nd.ents := by
  unfold more
  rw [getElem?_setNd, h]
  by_cases e : i = q
  · rw [if_pos e]; exact ⟨_, rfl, rfl⟩
  · rw [if_neg e]; exact ⟨_, rfl, rfl⟩

/-- an entry (q, x) that leads to i is moved to (r, y), where an entry to j may be -/
theorem cnt_move {c : Nat} {s : St} (b : Bd c s) {q r i : Nat} {qd rd : Nd} {x y : ByteArray} {oj : Option Nat} (hq : s[q]? = some qd) (hr : s[r]? = some rd) (hx : look qd.ents x = some i) (hy : look rd.ents y = oj) (hne : oj ≠ some i) (j : Nat) :
    cnt (enter (leave s q x) r y i) j + (if oj = some j then 1 else 0) = cnt s j := by
  have h1 := cnt_leave hq (b q qd hq).dk x j
  obtain ⟨rd', hr', he⟩ : ∃ rd', (leave s q x)[r]? = some rd' ∧ rd'.ents = if q = r then del rd.ents x else rd.ents := by
    unfold leave
    rw [getElem?_setNd, hr]
    by_cases e : q = r
    · rw [if_pos e, if_pos e]; exact ⟨_, rfl, rfl⟩
    · rw [if_neg e, if_neg e]; exact ⟨_, rfl, rfl⟩
  have hdk : Dk rd'.ents := by
    rw [he]
    split
    · exact (b r rd hr).dk.del x
    · exact (b r rd hr).dk
  have hlk : look rd'.ents y = oj := by
    rw [he]
    split
    · rename_i e
      subst e
      rw [hq] at hr
      injection hr with hr
      subst hr
      have hxy : y ≠ x := fun e => by rw [e, hx] at hy; exact hne hy.symm
      rw [look_del_other hxy]
      exact hy
    · exact hy
  have h2 := cnt_enter hr' hdk y i j
  rw [hlk] at h2
  rw [hx] at h1
  by_cases e : i = j
  · rw [if_pos (by rw [e])] at h1; rw [if_pos e] at h2; omega
  · rw [if_neg (fun z => e (by injection z))] at h1; rw [if_neg e] at h2; omega

theorem Cnt_rename {c : Nat} {s : St} (h : Cnt s) (b : Bd c s) (k : Ok s) (o : Op) : Cnt (rename s o).1 := by
  have hokf := there_ok k.leads k.pos o.path
  have hokt := walk_ok k.leads k.pos o.to'
  unfold rename
  simp only
  split
  · exact h
  · split
    · exact h
    · split
      · rename_i i q r hi hq hr
        obtain ⟨hqd, hlk, _⟩ := hokf.par q hq
        obtain ⟨qd, hqn, _⟩ := isDir_lt hqd
        rw [entsOf_get hqn, hi] at hlk
        obtain ⟨hrd, hlt, _⟩ := hokt.par r hr
        obtain ⟨rd, hrn, _⟩ := isDir_lt hrd
        rw [entsOf_get hrn] at hlt
        split
        · exact h
        · split
          · rename_i j hj
            split
            · exact h
            · rename_i hji
              split
              · exact h
              · rw [hj] at hlt
                obtain ⟨qd', hqn', hqe⟩ := get_ents hqn j (-1)
                obtain ⟨rd', hrn', hre⟩ := get_ents hrn j (-1)
                show Cnt (enter _ _ _ _)
                intro a nd hn hf
                obtain ⟨m1, a1, a2, a3⟩ := get_enter hn
                obtain ⟨m2, b1, b2, b3⟩ := get_leave a1
                obtain ⟨m3, c1, c2, c3⟩ := get_more b1
                have hm := cnt_move (b.more j (d := -1) (by decide) (by decide)) hqn' hrn' (by rw [hqe]; exact hlk.symm) (oj := some j) (by rw [hre]; exact hlt.symm) (fun e => hji (by injection e)) a
                rw [cnt_more] at hm
                have ha := h a m3 c1 (by rw [← c2, ← b2, ← a2]; exact hf)
                rw [a3, b3, c3, ha]
                by_cases e : j = a
                · rw [if_pos (by rw [e])] at hm; rw [if_pos e]; omega
                · rw [if_neg (fun z => e (by injection z))] at hm; rw [if_neg e]; omega
          · rename_i hj
            rw [hj] at hlt
            show Cnt (enter _ _ _ _)
            intro a nd hn hf
            obtain ⟨m1, a1, a2, a3⟩ := get_enter hn
            obtain ⟨m2, b1, b2, b3⟩ := get_leave a1
            have hm := cnt_move b hqn hrn hlk.symm (oj := none) hlt.symm (by simp) a
            have ha := h a m2 b1 (by rw [← b2, ← a2]; exact hf)
            simp only [reduceCtorEq, if_false] at hm
            rw [a3, b3, ha]
            omega
      · exact h

theorem Cnt_data {s : St} (h : Cnt s) (i : Nat) (f : Nd → List UInt8) : Cnt (setNd s i fun nd => { nd with data := f nd }) := by
  intro j nd hn hf
  obtain ⟨md, h1, h2⟩ := get_setNd hn
  have e1 : nd.dir = md.dir := by rw [h2]; split <;> rfl
  have e2 : nd.links = md.links := by rw [h2]; split <;> rfl
  rw [e2, h j md h1 (by rw [← e1]; exact hf)]
  have e3 := tot_same (f := fun nd => to1 j nd.ents) (g := fun nd => { nd with data := f nd }) (s := s) (q := i) (fun _ => rfl)
  unfold cnt
  rw [e3]

theorem Cnt_write {s : St} (h : Cnt s) (o : Op) : Cnt (write s o).1 := by
  unfold write
  simp only
  split
  · split
    · exact h
    · exact Cnt_data h _ _
  · exact h

theorem Cnt_truncate {s : St} (h : Cnt s) (o : Op) : Cnt (truncate s o).1 := by
  unfold truncate
  simp only
  split
  · exact Cnt_data h _ _
  · exact h

theorem Cnt_step {c : Nat} {s : St} (h : Cnt s) (b : Bd c s) (k : Ok s) (o : Op) : Cnt (step s o).1 := by
  unfold step
  by_cases p : paths o ≠ 0
  · rw [if_pos p]; exact h
  rw [if_neg p]
  clear p
  by_cases p : numbers o ≠ 0
  · rw [if_pos p]; exact h
  rw [if_neg p]
  clear p
  by_cases p : o.kind = 1
  · rw [if_pos p]; exact h
  rw [if_neg p]
  clear p
  by_cases p : o.kind = 2
  · rw [if_pos p]; exact h
  rw [if_neg p]
  clear p
  by_cases p : o.kind = 3
  · rw [if_pos p]; exact h
  rw [if_neg p]
  clear p
  by_cases p : o.kind = 4
  · rw [if_pos p]; exact Cnt_write h o
  rw [if_neg p]
  clear p
  by_cases p : o.kind = 11
  · rw [if_pos p]; exact Cnt_truncate h o
  rw [if_neg p]
  clear p
  by_cases p : o.kind = 5 ∨ o.kind = 6
  · rw [if_pos p]; exact Cnt_create h b k o
  rw [if_neg p]
  clear p
  by_cases p : o.kind = 7
  · rw [if_pos p]; exact Cnt_unlink h b k o
  rw [if_neg p]
  clear p
  by_cases p : o.kind = 8
  · rw [if_pos p]; exact Cnt_rmdir h b k o
  rw [if_neg p]
  clear p
  by_cases p : o.kind = 10
  · rw [if_pos p]; exact Cnt_link h b k o
  rw [if_neg p]
  clear p
  by_cases p : o.kind = 9
  · rw [if_pos p]; exact Cnt_rename h b k o
  rw [if_neg p]
  exact h

theorem Cnt_new : Cnt new := fun i nd hn hf => by
  have hi : i = 0 := by
    have := (List.getElem?_eq_some_iff.1 hn).1
    simp [new] at this
    exact this
  subst hi
  simp [new] at hn
  subst hn
  cases hf

/-- all that holds of a file system after c ops -/
structure Good (c : Nat) (s : St) : Prop where
  ok : Ok s
  bd : Bd c s
  cnt : Cnt s

theorem Good.step {c : Nat} {s : St} (g : Good c s) (o : Op) : Good (c + 2) (step s o).1 := ⟨Ok_step g.ok o, Bd_step g.bd g.ok o, Cnt_step g.cnt g.bd g.ok o⟩
theorem Good_new : Good 0 new := ⟨Ok_new, Bd_new, Cnt_new⟩
theorem Good.mono {c d : Nat} (h : c ≤ d) {s : St} (g : Good c s) : Good d s := ⟨g.ok, g.bd.mono h, g.cnt⟩
end Md
end Go.Proofs.YtbmbjedpeepnfaaDoor

/-
  Package model, plain: the directories are a tree: one path leads to each. No program in sight. No condition.
-/
namespace Go.Proofs.YtbmbjedpeepnfaaDoor
open Go.RowKit

namespace Md
/-- what name x of node i leads to -/
def edge (s : St) (i : Nat) (x : ByteArray) : Option Nat := if isDir s i = true then look (entsOf s i) x else none
/-- where names lead to from node i -/
def goL (s : St) : Nat → List ByteArray → Option Nat
  | i, [] => some i
  | i, x :: l => (edge s i x).bind fun j => goL s j l

theorem goL_append (s : St) : ∀ (a b : List ByteArray) (i : Nat), goL s i (a ++ b) = (goL s i a).bind fun j => goL s j b
  | [], _, _ => rfl
  | x :: a, b, i => by
    show (edge s i x).bind (fun j => goL s j (a ++ b)) = ((edge s i x).bind fun j => goL s j a).bind _
    cases edge s i x with
    | none => rfl
    | some j => exact goL_append s a b j

theorem goL_snoc {s : St} {a : List ByteArray} {x : ByteArray} {i j : Nat} : goL s i (a ++ [x]) = some j ↔ ∃ q, goL s i a = some q ∧ edge s q x = some j := by
  rw [goL_append]
  cases goL s i a with
  | none => simp
  | some q =>
    show (edge s q x).bind (fun j => goL s j []) = some j ↔ _
    cases e : edge s q x with
    | none => simp [e]
    | some k => simp [e, goL]

theorem goL_mono {s s' : St} (h : ∀ i x j, edge s' i x = some j → edge s i x = some j) : ∀ (l : List ByteArray) (i d : Nat), goL s' i l = some d → goL s i l = some d
  | [], _, _, e => e
  | x :: l, i, d, e => by
    have e2 : (edge s' i x).bind (fun j => goL s' j l) = some d := e
    show (edge s i x).bind (fun j => goL s j l) = some d
    cases c : edge s' i x with
    | none => rw [c] at e2; cases e2
    | some j =>
      rw [c] at e2
      rw [h i x j c]
      exact goL_mono h l j d e2

theorem edge_dir {s : St} {i j : Nat} {x : ByteArray} (h : edge s i x = some j) : isDir s i = true := by
  unfold edge at h
  by_cases c : isDir s i = true
  · exact c
  · rw [if_neg c] at h; cases h

/-- each directory has one path -/
def U (s : St) : Prop := ∀ (l1 l2 : List ByteArray) (d : Nat), goL s 0 l1 = some d → goL s 0 l2 = some d → isDir s d = true → l1 = l2

theorem U.sub {s s' : St} (h : U s) (he : ∀ i x j, edge s' i x = some j → edge s i x = some j) (hd : ∀ d, isDir s' d = true → isDir s d = true) : U s' :=
  fun l1 l2 d h1 h2 h3 => h l1 l2 d (goL_mono he l1 0 d h1) (goL_mono he l2 0 d h2) (hd d h3)

theorem edge_same {s s' : St} (h : ∀ i, isDir s' i = isDir s i) (g : ∀ i, isDir s i = true → entsOf s' i = entsOf s i) (i : Nat) (x : ByteArray) : edge s' i x = edge s i x := by
  unfold edge
  rw [h i]
  by_cases c : isDir s i = true
  · rw [if_pos c, if_pos c, g i c]
  · rw [if_neg c, if_neg c]


theorem entsOf_setNd (s : St) (q : Nat) (f : Nd → Nd) (j : Nat) : entsOf (setNd s q f) j = match s[j]? with | some nd => if q = j then (f nd).ents else nd.ents | none => [] := by
  unfold entsOf
  rw [getElem?_setNd]
  by_cases e : q = j
  · rw [if_pos e]
    cases s[j]? with
    | none => rfl
    | some nd => simp [e]
  · rw [if_neg e]
    cases s[j]? with
    | none => rfl
    | some nd => simp [e]

theorem entsOf_kept (s : St) (q : Nat) (f : Nd → Nd) (h : ∀ nd, (f nd).ents = nd.ents) (j : Nat) : entsOf (setNd s q f) j = entsOf s j := by
  rw [entsOf_setNd]
  unfold entsOf
  cases s[j]? with
  | none => rfl
  | some nd =>
    show (if q = j then (f nd).ents else nd.ents) = nd.ents
    rw [h]; split <;> rfl

theorem edge_more (s : St) (i : Nat) (d : Int) (q : Nat) (x : ByteArray) : edge (more s i d) q x = edge s q x :=
  edge_same (isDir_more s i d) (fun j _ => entsOf_kept s i (fun nd => { nd with links := nd.links + d }) (fun _ => rfl) j) q x

theorem edge_leave (s : St) (q : Nat) (x : ByteArray) (i : Nat) (y : ByteArray) : edge (leave s q x) i y = if i = q ∧ y = x then none else edge s i y := by
  unfold edge
  rw [isDir_leave]
  by_cases c : isDir s i = true
  · rw [if_pos c, if_pos c]
    have e : entsOf (leave s q x) i = if q = i then del (entsOf s i) x else entsOf s i := by
      unfold leave
      rw [entsOf_setNd]
      unfold entsOf
      cases s[i]? with
      | none => show ([] : List (ByteArray × Nat)) = _; split <;> rfl
      | some nd => rfl
    rw [e]
    by_cases h : q = i
    · rw [if_pos h]
      by_cases hx : y = x
      · rw [if_pos ⟨h.symm, hx⟩, hx, look_del_same]
      · rw [if_neg (fun z => hx z.2), look_del_other hx]
    · rw [if_neg h, if_neg (fun z => h z.1.symm)]
  · rw [if_neg c, if_neg c]
    split <;> rfl

theorem edge_enter (s : St) (q : Nat) (x : ByteArray) (v i : Nat) (y : ByteArray) (hq : isDir s q = true) : edge (enter s q x v) i y = if i = q ∧ y = x then some v else edge s i y := by
  unfold edge
  rw [isDir_enter]
  by_cases c : isDir s i = true
  · rw [if_pos c, if_pos c]
    have e : q ≠ i ∨ q = i := (Decidable.em (q = i)).symm
    rcases e with h | h
    · have e : entsOf (enter s q x v) i = entsOf s i := by
        unfold enter
        rw [entsOf_setNd]
        unfold entsOf
        cases s[i]? with
        | none => rfl
        | some nd => simp [h]
      rw [e, if_neg (fun z => h z.1.symm)]
    · obtain ⟨nd, hn, _⟩ := isDir_lt c
      have e : entsOf (enter s q x v) i = put nd.ents x v := by
        unfold enter
        rw [entsOf_setNd, hn]
        simp [h]
      rw [e, entsOf_get hn]
      by_cases hx : y = x
      · rw [if_pos ⟨h.symm, hx⟩, hx, look_put_same]
      · rw [if_neg (fun z => hx z.2), look_put_other v hx]
  · rw [if_neg c, if_neg c, if_neg (fun z => c (by rw [z.1]; exact hq))]

theorem isDir_push' (s : St) (nd : Nd) (i : Nat) (h : i ≠ s.length) : isDir (s ++ [nd]) i = isDir s i := by
  unfold isDir
  by_cases e : i < s.length
  · rw [List.getElem?_append_left e]
  · rw [List.getElem?_eq_none (by simp; omega), List.getElem?_eq_none (by omega)]

theorem edge_push (s : St) (nd : Nd) (he : nd.ents = []) (i : Nat) (x : ByteArray) : edge (s ++ [nd]) i x = edge s i x := by
  unfold edge
  by_cases e : i = s.length
  · subst e
    have e2 : isDir s s.length = false := by unfold isDir; rw [List.getElem?_eq_none (Nat.le_refl _)]
    have e3 : entsOf (s ++ [nd]) s.length = [] := by unfold entsOf; rw [List.getElem?_append_right (Nat.le_refl _)]; simpa using he
    rw [e2, e3]
    by_cases c : isDir (s ++ [nd]) s.length = true
    · rw [if_pos c, if_neg (by decide)]; rfl
    · rw [if_neg c, if_neg (by decide)]
  · rw [isDir_push' s nd i e]
    have e3 : entsOf (s ++ [nd]) i = entsOf s i := by
      unfold entsOf
      by_cases c : i < s.length
      · rw [List.getElem?_append_left c]
      · rw [List.getElem?_eq_none (by simp; omega), List.getElem?_eq_none (by omega)]
    rw [e3]

/-- a way behind an entry that was made: it does not use it, or it does -/
theorem goL_enter {s : St} {r v : Nat} {y : ByteArray} (hr : isDir s r = true) : ∀ (l : List ByteArray) (i d : Nat), goL (enter s r y v) i l = some d →
    goL s i l = some d ∨ ∃ a b, l = a ++ y :: b ∧ goL s i a = some r ∧ goL (enter s r y v) v b = some d
  | [], _, _, e => Or.inl e
  | x :: l, i, d, e => by
    have e2 : (edge (enter s r y v) i x).bind (fun j => goL (enter s r y v) j l) = some d := e
    rw [edge_enter s r y v i x hr] at e2
    by_cases c : i = r ∧ x = y
    · rw [if_pos c] at e2
      exact Or.inr ⟨[], l, by rw [c.2]; rfl, by rw [c.1]; rfl, e2⟩
    · rw [if_neg c] at e2
      cases h : edge s i x with
      | none => rw [h] at e2; cases e2
      | some j =>
        rw [h] at e2
        have e3 : goL (enter s r y v) j l = some d := e2
        rcases goL_enter hr l j d e3 with h1 | ⟨a, b, h1, h2, h3⟩
        · left
          show (edge s i x).bind (fun j => goL s j l) = some d
          rw [h]; exact h1
        · right
          refine ⟨x :: a, b, by rw [h1]; rfl, ?_, h3⟩
          show (edge s i x).bind (fun j => goL s j a) = some r
          rw [h]; exact h2

theorem goL_enter_from {s : St} {r v : Nat} {y : ByteArray} (hr : isDir s r = true) (NR : ∀ b, goL s v b ≠ some r) {b : List ByteArray} {d : Nat} (h : goL (enter s r y v) v b = some d) : goL s v b = some d := by
  rcases goL_enter hr b v d h with h | ⟨a, _, _, h2, _⟩
  · exact h
  · exact absurd h2 (NR a)

theorem U_enter {s : St} (h : U s) {r v : Nat} {y : ByteArray} (hr : isDir s r = true) (NR : ∀ b, goL s v b ≠ some r) (V : ∀ b b' d, goL s v b = some d → goL s v b' = some d → isDir s d = true → b = b')
    (W : ∀ l b d, goL s 0 l = some d → goL s v b = some d → isDir s d = true → False) : U (enter s r y v) := by
  intro l1 l2 d h1 h2 hd
  rw [isDir_enter] at hd
  rcases goL_enter hr l1 0 d h1 with a1 | ⟨a, b, e1, g1, g2⟩ <;> rcases goL_enter hr l2 0 d h2 with a2 | ⟨a', b', e2, f1, f2⟩
  · exact h l1 l2 d a1 a2 hd
  · exact absurd (W l1 b' d a1 (goL_enter_from hr NR f2) hd) id
  · exact absurd (W l2 b d a2 (goL_enter_from hr NR g2) hd) id
  · rw [e1, e2, h a a' r g1 f1 hr, V b b' d (goL_enter_from hr NR g2) (goL_enter_from hr NR f2) hd]

/-- from a file nothing is led to -/
theorem goL_file {s : St} {v : Nat} (h : isDir s v = false) {b : List ByteArray} {d : Nat} (e : goL s v b = some d) : b = [] ∧ d = v := by
  cases b with
  | nil => injection e with e; exact ⟨rfl, e.symm⟩
  | cons x b =>
    have e2 : (edge s v x).bind (fun j => goL s j b) = some d := e
    unfold edge at e2
    rw [h, if_neg (by decide)] at e2
    cases e2

theorem U_enter_file {s : St} (h : U s) {r v : Nat} {y : ByteArray} (hr : isDir s r = true) (hv : isDir s v = false) : U (enter s r y v) := by
  refine U_enter h hr (fun b e => ?_) (fun b b' d e1 e2 hd => ?_) (fun l b d _ e2 hd => ?_)
  · have := (goL_file hv e).2
    rw [this, hv] at hr; cases hr
  · rw [(goL_file hv e1).1, (goL_file hv e2).1]
  · have := (goL_file hv e2).2
    rw [this, hv] at hd; cases hd

theorem U_leave {s : St} (h : U s) (q : Nat) (x : ByteArray) : U (leave s q x) :=
  h.sub (fun i y j e => by
    rw [edge_leave] at e
    by_cases c : i = q ∧ y = x
    · rw [if_pos c] at e; cases e
    · rw [if_neg c] at e; exact e) (fun d e => by rw [isDir_leave] at e; exact e)

theorem U_more {s : St} (h : U s) (i : Nat) (d : Int) : U (more s i d) :=
  h.sub (fun q y j e => by rw [edge_more] at e; exact e) (fun q e => by rw [isDir_more] at e; exact e)

theorem U_data {s : St} (h : U s) (i : Nat) (f : Nd → List UInt8) : U (setNd s i fun nd => { nd with data := f nd }) := by
  have hd : ∀ q, isDir (setNd s i fun nd => { nd with data := f nd }) q = isDir s q := fun q => isDir_setNd (fun _ => rfl)
  exact h.sub (fun q y j e => by rw [edge_same hd (fun j _ => entsOf_kept s i (fun nd => { nd with data := f nd }) (fun _ => rfl) j)] at e; exact e) (fun q e => by rw [hd] at e; exact e)

theorem goL_lt {s : St} (k : Ok s) : ∀ (l : List ByteArray) (i d : Nat), i < s.length → goL s i l = some d → d < s.length
  | [], i, d, h, e => by injection e with e; omega
  | x :: l, i, d, h, e => by
    have e2 : (edge s i x).bind (fun j => goL s j l) = some d := e
    cases c : edge s i x with
    | none => rw [c] at e2; cases e2
    | some j =>
      rw [c] at e2
      have hd := edge_dir c
      unfold edge at c
      rw [if_pos hd] at c
      obtain ⟨nd, hn, _⟩ := isDir_lt hd
      rw [entsOf_get hn] at c
      exact goL_lt k l j d (k.leads i nd hn _ (look_mem c)) e2

theorem U_push {s : St} (h : U s) (k : Ok s) (nd : Nd) (he : nd.ents = []) : U (s ++ [nd]) := by
  have em : ∀ i x j, edge (s ++ [nd]) i x = some j → edge s i x = some j := fun i x j e => by rw [edge_push s nd he] at e; exact e
  intro l1 l2 d h1 h2 hd
  have g1 := goL_mono em l1 0 d h1
  have g2 := goL_mono em l2 0 d h2
  have := goL_lt k l1 0 d k.pos g1
  rw [isDir_push' s nd d (by omega)] at hd
  exact h l1 l2 d g1 g2 hd

theorem U_new : U new := by
  intro l1 l2 d h1 h2 _
  have e : ∀ i x, edge new i x = none := fun i x => by
    unfold edge
    by_cases c : isDir new i = true
    · rw [if_pos c]
      obtain ⟨nd, hn, _⟩ := isDir_lt c
      have hi : i = 0 := by
        have := (List.getElem?_eq_some_iff.1 hn).1
        simp [new] at this
        exact this
      subst hi
      rfl
    · rw [if_neg c]
  have g : ∀ l d, goL new 0 l = some d → l = [] := fun l d h => by
    cases l with
    | nil => rfl
    | cons x l =>
      have h2 : (edge new 0 x).bind (fun j => goL new j l) = some d := h
      rw [e] at h2; cases h2
  rw [g l1 d h1, g l2 d h2]

/-! ### a walk, and where names lead to -/

theorem walkP_go {s : St} : ∀ (a : List ByteArray) (x : ByteArray) (p : Pl) (i q : Nat), p.is' = some i → goL s i a = some q → isDir s q = true → walkP s p (a ++ [x]) = (⟨some q, x, look (entsOf s q) x⟩, 0)
  | [], x, p, i, q, hp, h, hd => by
    injection h with h
    subst h
    show (match p.is' with | none => (Pl.no, 2) | some i => if isDir s i then walkP s ⟨some i, x, look (entsOf s i) x⟩ [] else (Pl.no, 4)) = _
    rw [hp]
    simp only
    rw [if_pos hd]
    rfl
  | y :: a, x, p, i, q, hp, h, hd => by
    have h2 : (edge s i y).bind (fun j => goL s j a) = some q := h
    cases c : edge s i y with
    | none => rw [c] at h2; cases h2
    | some j =>
      rw [c] at h2
      have hdi := edge_dir c
      show (match p.is' with | none => (Pl.no, 2) | some i => if isDir s i then walkP s ⟨some i, y, look (entsOf s i) y⟩ (a ++ [x]) else (Pl.no, 4)) = _
      rw [hp]
      simp only
      rw [if_pos hdi]
      unfold edge at c
      rw [if_pos hdi] at c
      exact walkP_go a x _ j q c h2 hd

theorem go_walkP {s : St} : ∀ (l : List ByteArray) (p : Pl) (i : Nat), p.is' = some i → (walkP s p l).2 = 0 → l = [] ∨ ∃ a x q, l = a ++ [x] ∧ goL s i a = some q ∧ isDir s q = true
  | [], _, _, _, _ => Or.inl rfl
  | y :: l, p, i, hp, h => by
    right
    have h2 : (match p.is' with | none => (Pl.no, (2 : Int)) | some i => if isDir s i then walkP s ⟨some i, y, look (entsOf s i) y⟩ l else (Pl.no, 4)).2 = 0 := h
    rw [hp] at h2
    simp only at h2
    by_cases c : isDir s i = true
    · rw [if_pos c] at h2
      cases e : look (entsOf s i) y with
      | none =>
        rw [e] at h2
        cases l with
        | nil => exact ⟨[], y, i, rfl, rfl, c⟩
        | cons z l => exact absurd (show (2 : Int) = 0 from h2) (by decide)
      | some j =>
        rw [e] at h2
        rcases go_walkP l ⟨some i, y, some j⟩ j rfl h2 with rfl | ⟨a, x, q, h3, h4, h5⟩
        · exact ⟨[], y, i, rfl, rfl, c⟩
        · refine ⟨y :: a, x, q, by rw [h3]; rfl, ?_, h5⟩
          show (edge s i y).bind (fun j => goL s j a) = some q
          unfold edge
          rw [if_pos c, e]
          exact h4
    · rw [if_neg c] at h2
      exact absurd (show (4 : Int) = 0 from h2) (by decide)

theorem jtx_nil : Nm.jtx [] = slash := by decide +kernel

theorem split_ne {path : ByteArray} {l : List ByteArray} (h : Nm.split path = some l) (hp : path ≠ slash) : l ≠ [] := fun e => by
  subst e
  have := (Nm.split_some h).1
  exact hp (by rw [this, jtx_nil])

/-- a path that is not the root's, and that leads somewhere -/
theorem walk_parts {s : St} {path : ByteArray} {l : List ByteArray} (hl : Nm.split path = some l) (h : (walk s path).2 = 0) (hp : l ≠ []) :
    ∃ a x q, l = a ++ [x] ∧ goL s 0 a = some q ∧ isDir s q = true ∧ walk s path = (⟨some q, x, look (entsOf s q) x⟩, 0) := by
  unfold walk at h ⊢
  rw [hl] at h ⊢
  simp only at h ⊢
  rcases go_walkP l ⟨none, ⟨#[]⟩, some 0⟩ 0 rfl h with e | ⟨a, x, q, h3, h4, h5⟩
  · exact absurd e hp
  · exact ⟨a, x, q, h3, h4, h5, by rw [h3]; exact walkP_go a x _ 0 q rfl h4 h5⟩

theorem walk_of {s : St} {path : ByteArray} {a : List ByteArray} {x : ByteArray} (hl : Nm.split path = some (a ++ [x])) {q : Nat} (h : goL s 0 a = some q) (hd : isDir s q = true) : walk s path = (⟨some q, x, look (entsOf s q) x⟩, 0) := by
  unfold walk
  rw [hl]
  exact walkP_go a x _ 0 q rfl h hd

theorem edge_at {s : St} {q : Nat} {x : ByteArray} (h : isDir s q = true) : edge s q x = look (entsOf s q) x := by unfold edge; rw [if_pos h]

end Md
end Go.Proofs.YtbmbjedpeepnfaaDoor

/-
  Package model, plain: every op keeps the tree. No program in sight. No condition.
-/
namespace Go.Proofs.YtbmbjedpeepnfaaDoor
open Go.RowKit

namespace Md
theorem U_create {s : St} (h : U s) (k : Ok s) (o : Op) : U (create s o).1 := by
  have hok := walk_ok k.leads k.pos o.path
  unfold create
  simp only
  split
  · split
    · exact h
    · rename_i q _ hq
      have hqd := (hok.par q hq).1
      have he : (if o.kind = 6 then (⟨true, [], [], 0⟩ : Nd) else ⟨false, [], [], 1⟩).ents = [] := by split <;> rfl
      have hU := U_push h k _ he
      have hr := isDir_push (nd := if o.kind = 6 then (⟨true, [], [], 0⟩ : Nd) else ⟨false, [], [], 1⟩) hqd
      generalize (if o.kind = 6 then (⟨true, [], [], 0⟩ : Nd) else ⟨false, [], [], 1⟩) = nd at he hU hr
      have ed : ∀ x, edge (s ++ [nd]) s.length x = none := fun x => by
        rw [edge_push s nd he]
        unfold edge
        have e2 : isDir s s.length = false := by unfold isDir; rw [List.getElem?_eq_none (Nat.le_refl _)]
        rw [e2, if_neg (by decide)]
      have g : ∀ b d, goL (s ++ [nd]) s.length b = some d → b = [] ∧ d = s.length := fun b d e => by
        cases b with
        | nil => injection e with e; exact ⟨rfl, e.symm⟩
        | cons x b =>
          have e2 : (edge (s ++ [nd]) s.length x).bind (fun j => goL (s ++ [nd]) j b) = some d := e
          rw [ed] at e2; cases e2
      have hql : q < s.length := by
        obtain ⟨md, hm, _⟩ := isDir_lt hqd
        exact (List.getElem?_eq_some_iff.1 hm).1
      refine U_enter hU hr (fun b e => ?_) (fun b b' d e1 e2 _ => ?_) (fun l b d e1 e2 _ => ?_)
      · have := (g b q e).2; omega
      · rw [(g b d e1).1, (g b' d e2).1]
      · have h1 := goL_lt k l 0 d k.pos (goL_mono (fun i x j e => by rw [edge_push s nd he] at e; exact e) l 0 d e1)
        have := (g b d e2).2; omega
    · exact h
  · exact h

theorem U_unlink {s : St} (h : U s) (o : Op) : U (unlink s o).1 := by
  unfold unlink
  simp only
  split
  · exact U_more (U_leave h _ _) _ _
  · exact h

theorem U_rmdir {s : St} (h : U s) (o : Op) : U (rmdir s o).1 := by
  unfold rmdir
  simp only
  split
  · split
    · split
      · exact h
      · split
        · exact U_leave h _ _
        · exact h
    · exact h
  · exact h

theorem file_not {s : St} {path : ByteArray} {i : Nat} (h0 : (file s path).2 = 0) (hi : (file s path).1 = some i) : isDir s i = false := by
  unfold file at h0 hi
  cases e : (there s path).1.is' with
  | none => simp only [e] at hi; cases hi
  | some j =>
    simp only [e] at h0 hi
    by_cases c : (there s path).2 = 0 ∧ isDir s j = true
    · rw [if_pos c] at h0
      exact absurd (show (5 : Int) = 0 from h0) (by decide)
    · rw [if_neg c] at h0 hi
      injection hi with hi
      subst hi
      cases d : isDir s j with
      | false => rfl
      | true => exact absurd ⟨h0, d⟩ c

theorem U_link {s : St} (h : U s) (k : Ok s) (o : Op) : U (link s o).1 := by
  have hok := walk_ok k.leads k.pos o.to'
  unfold link
  simp only
  split
  · rename_i i hi h0
    split
    · split
      · exact h
      · rename_i q _ hq
        split
        · exact h
        · exact U_enter_file (U_more h _ _) (by rw [isDir_more]; exact (hok.par q hq).1) (by rw [isDir_more]; exact file_not (of_decide_eq_true h0) hi)
      · exact h
    · exact h
  · exact h

/-- an entry moved: from (q, x) at the end of a to (r, y) at the end of b -/
theorem U_move {s : St} (h : U s) {i q r : Nat} {a b : List ByteArray} {x y : ByteArray} (ha : goL s 0 a = some q) (hx : edge s q x = some i) (hb : goL s 0 b = some r) (hr : isDir s r = true)
    (hn : isDir s i = true → ¬ ∃ c, b = a ++ x :: c) : U (enter (leave s q x) r y i) := by
  have hr' : isDir (leave s q x) r = true := by rw [isDir_leave]; exact hr
  by_cases hi : isDir s i = true
  · have sub : ∀ i' z j, edge (leave s q x) i' z = some j → edge s i' z = some j := fun i' z j e => by
      rw [edge_leave] at e
      by_cases c : i' = q ∧ z = x
      · rw [if_pos c] at e; cases e
      · rw [if_neg c] at e; exact e
    have hax : goL s 0 (a ++ [x]) = some i := goL_snoc.2 ⟨q, ha, hx⟩
    have from' : ∀ c d, goL (leave s q x) i c = some d → goL s 0 (a ++ x :: c) = some d := fun c d e => by
      have := goL_mono sub c i d e
      rw [show a ++ x :: c = (a ++ [x]) ++ c by simp, goL_append, hax]
      exact this
    refine U_enter (U_leave h q x) hr' (fun c e => ?_) (fun c c' d e1 e2 hd => ?_) (fun l c d e1 e2 hd => ?_)
    · exact hn hi ⟨c, h _ _ r hb (from' c r e) hr⟩
    · rw [isDir_leave] at hd
      have := h _ _ d (from' c d e1) (from' c' d e2) hd
      simpa using this
    · rw [isDir_leave] at hd
      have := h _ _ d (goL_mono sub l 0 d e1) (from' c d e2) hd
      subst this
      rw [show a ++ x :: c = (a ++ [x]) ++ c by simp, goL_append] at e1
      cases e3 : goL (leave s q x) 0 (a ++ [x]) with
      | none => rw [e3] at e1; cases e1
      | some z =>
        obtain ⟨q', g1, g2⟩ := goL_snoc.1 e3
        have := goL_mono sub a 0 q' g1
        rw [ha] at this
        injection this with this
        subst this
        rw [edge_leave, if_pos ⟨rfl, rfl⟩] at g2
        cases g2
  · exact U_enter_file (U_leave h q x) hr' (by rw [isDir_leave]; simpa using hi)

/-- what holds of a rename that is done -/
structure Moved (s : St) (o : Op) (i q r : Nat) (a b : List ByteArray) (x y : ByteArray) : Prop where
  sf : Nm.split o.path = some (a ++ [x])
  st : Nm.split o.to' = some (b ++ [y])
  ga : goL s 0 a = some q
  gb : goL s 0 b = some r
  dq : isDir s q = true
  dr : isDir s r = true
  ei : edge s q x = some i
  wf : walk s o.path = (⟨some q, x, some i⟩, 0)
  wt : walk s o.to' = (⟨some r, y, edge s r y⟩, 0)

theorem paths_zero {o : Op} (h : paths o = 0) : ∃ l, Nm.split o.path = some l ∧ (two o = true → l ≠ [] ∧ ∃ m, Nm.split o.to' = some m ∧ m ≠ []) := by
  unfold paths at h
  by_cases c : two o = true
  · rw [if_pos c] at h
    by_cases d : o.path = slash ∨ o.to' = slash
    · rw [if_pos d] at h; exact absurd h (by decide)
    · rw [if_neg d] at h
      cases e1 : Nm.split o.path with
      | none => rw [e1] at h; simp at h
      | some l =>
        cases e2 : Nm.split o.to' with
        | none => rw [e1, e2] at h; simp at h
        | some m => exact ⟨l, rfl, fun _ => ⟨split_ne e1 (fun e => d (Or.inl e)), m, rfl, split_ne e2 (fun e => d (Or.inr e))⟩⟩
  · rw [if_neg c] at h
    cases e1 : Nm.split o.path with
    | none => rw [e1] at h; simp at h
    | some l => exact ⟨l, rfl, fun e => absurd e c⟩

theorem rename_parts {s : St} {o : Op} {l m : List ByteArray} (h1 : Nm.split o.path = some l) (h2 : Nm.split o.to' = some m) (n1 : l ≠ []) (n2 : m ≠ []) (hf : (there s o.path).2 = 0) (ht : (walk s o.to').2 = 0) :
    ∃ i q r a b x y, Moved s o i q r a b x y ∧ there s o.path = walk s o.path := by
  have hw := there_walk hf
  have hs := there_some s o.path hf
  rw [hw] at hf hs
  obtain ⟨a, x, q, ea, ga, dq, wf⟩ := walk_parts h1 hf n1
  obtain ⟨b, y, r, eb, gb, dr, wt⟩ := walk_parts h2 ht n2
  subst ea eb
  rw [wf] at hs
  cases e : look (entsOf s q) x with
  | none => exact absurd e hs
  | some i => exact ⟨i, q, r, a, b, x, y, ⟨h1, h2, ga, gb, dq, dr, by rw [edge_at dq]; exact e, by rw [wf, e], by rw [wt, edge_at dr]⟩, hw⟩

/-- rename, told by its parts -/
theorem rename_is {s : St} {o : Op} {i q r : Nat} {a b : List ByteArray} {x y : ByteArray} (M : Moved s o i q r a b x y) (hw : there s o.path = walk s o.path) :
    rename s o = if isDir s i = true ∧ o.to' ≠ o.path ∧ Nm.below o.to' o.path = true then (s, 1)
      else match edge s r y with
        | some j => if j = i then (s, 0) else if replaces s i j ≠ 0 then (s, replaces s i j) else (enter (leave (more s j (-1)) q x) r y i, 0)
        | none => (enter (leave s q x) r y i, 0) := by
  unfold rename
  rw [hw, M.wf, M.wt]
  rfl

theorem below_iff {s t : ByteArray} {a b : List ByteArray} (ha : Nm.split s = some a) (hb : Nm.split t = some b) : Nm.below s t = true ↔ ∃ c, a = b ++ c := by
  rw [Nm.below_of ha hb]
  constructor
  · intro h
    simp at h
    exact ⟨a.drop b.length, by conv => lhs; rw [← List.take_append_drop b.length a, h.2]⟩
  · rintro ⟨c, rfl⟩
    simp

theorem path_same {s t : ByteArray} {l : List ByteArray} (h : Nm.split s = some l) (k : Nm.split t = some l) : s = t := by
  rw [(Nm.split_some h).1, (Nm.split_some k).1]

theorem not_below {s : St} {o : Op} {i q r : Nat} {a b : List ByteArray} {x y : ByteArray} (M : Moved s o i q r a b x y) (h : ¬ (isDir s i = true ∧ o.to' ≠ o.path ∧ Nm.below o.to' o.path = true)) : isDir s i = true → ¬ ∃ c, b = a ++ x :: c := by
  rintro hi ⟨c, rfl⟩
  refine h ⟨hi, fun e => ?_, (below_iff M.st M.sf).2 ⟨c ++ [y], by simp⟩⟩
  have e1 := M.st
  rw [e, M.sf] at e1
  injection e1 with e1
  have := congrArg List.length e1
  simp at this

theorem U_rename {s : St} (h : U s) (o : Op) (hp : paths o = 0) (hk : o.kind = 9) : U (rename s o).1 := by
  obtain ⟨l, h1, h2⟩ := paths_zero hp
  obtain ⟨n1, m, h3, n2⟩ := h2 (by unfold two; simp [hk])
  by_cases hf : (there s o.path).2 = 0
  · by_cases ht : (walk s o.to').2 = 0
    · obtain ⟨i, q, r, a, b, x, y, M, hw⟩ := rename_parts h1 h3 n1 n2 hf ht
      rw [rename_is M hw]
      by_cases c : isDir s i = true ∧ o.to' ≠ o.path ∧ Nm.below o.to' o.path = true
      · rw [if_pos c]; exact h
      · rw [if_neg c]
        have hn := not_below M c
        cases e : edge s r y with
        | none => exact U_move h M.ga M.ei M.gb M.dr hn
        | some j =>
          simp only
          split
          · exact h
          · split
            · exact h
            · have sub : ∀ (l : List ByteArray) (i d : Nat), goL s i l = some d → goL (more s j (-1)) i l = some d := goL_mono (fun i x j' e => by rw [edge_more]; exact e)
              exact U_move (U_more h j (-1)) (sub _ _ _ M.ga) (by rw [edge_more]; exact M.ei) (sub _ _ _ M.gb) (by rw [isDir_more]; exact M.dr) (by rw [isDir_more]; exact hn)
    · unfold rename
      simp only
      rw [if_neg (fun z => z hf), if_pos ht]
      exact h
  · unfold rename
    simp only
    rw [if_pos hf]
    exact h

theorem U_step {s : St} (h : U s) (k : Ok s) (o : Op) : U (step s o).1 := by
  unfold step
  by_cases p : paths o ≠ 0
  · rw [if_pos p]; exact h
  rw [if_neg p]
  have hp : paths o = 0 := Decidable.not_not.1 p
  clear p
  by_cases p : numbers o ≠ 0
  · rw [if_pos p]; exact h
  rw [if_neg p]
  clear p
  by_cases p : o.kind = 1
  · rw [if_pos p]; exact h
  rw [if_neg p]
  clear p
  by_cases p : o.kind = 2
  · rw [if_pos p]; exact h
  rw [if_neg p]
  clear p
  by_cases p : o.kind = 3
  · rw [if_pos p]; exact h
  rw [if_neg p]
  clear p
  by_cases p : o.kind = 4
  · rw [if_pos p]
    unfold write
    simp only
    split
    · split
      · exact h
      · exact U_data h _ _
    · exact h
  rw [if_neg p]
  clear p
  by_cases p : o.kind = 11
  · rw [if_pos p]
    unfold truncate
    simp only
    split
    · exact U_data h _ _
    · exact h
  rw [if_neg p]
  clear p
  by_cases p : o.kind = 5 ∨ o.kind = 6
  · rw [if_pos p]; exact U_create h k o
  rw [if_neg p]
  clear p
  by_cases p : o.kind = 7
  · rw [if_pos p]; exact U_unlink h o
  rw [if_neg p]
  clear p
  by_cases p : o.kind = 8
  · rw [if_pos p]; exact U_rmdir h o
  rw [if_neg p]
  clear p
  by_cases p : o.kind = 10
  · rw [if_pos p]; exact U_link h k o
  rw [if_neg p]
  clear p
  by_cases p : o.kind = 9
  · rw [if_pos p]; exact U_rename h o hp p
  rw [if_neg p]
  exact h
end Md
end Go.Proofs.YtbmbjedpeepnfaaDoor

/-
  Package model, plain: what is renamed is there by its new name, and not by the old one. No program in sight. No condition.
-/
namespace Go.Proofs.YtbmbjedpeepnfaaDoor
open Go.RowKit

namespace Md
theorem goL_keep {s s' : St} : ∀ (l : List ByteArray) (i d : Nat), goL s i l = some d → (∀ p z t, l = p ++ z :: t → ∀ n, goL s i p = some n → edge s' n z = edge s n z) → goL s' i l = some d
  | [], _, _, e, _ => e
  | x :: l, i, d, e, h => by
    have e2 : (edge s i x).bind (fun j => goL s j l) = some d := e
    show (edge s' i x).bind (fun j => goL s' j l) = some d
    rw [h [] x l rfl i rfl]
    cases c : edge s i x with
    | none => rw [c] at e2; cases e2
    | some j =>
      rw [c] at e2
      refine goL_keep l j d e2 (fun p z t hl n hn => h (x :: p) z t (by rw [hl]; rfl) n ?_)
      show (edge s i x).bind (fun j => goL s j p) = some n
      rw [c]; exact hn

theorem edge_move {s : St} {q r i : Nat} {x y : ByteArray} (dr : isDir s r = true) (n : Nat) (z : ByteArray) : edge (enter (leave s q x) r y i) n z = if n = r ∧ z = y then some i else if n = q ∧ z = x then none else edge s n z := by
  rw [edge_enter _ _ _ _ _ _ (by rw [isDir_leave]; exact dr), edge_leave]

theorem moved_walks {s : St} (u : U s) {i q r : Nat} {a b : List ByteArray} {x y : ByteArray} (ga : goL s 0 a = some q) (gb : goL s 0 b = some r) (dq : isDir s q = true) (dr : isDir s r = true) (ei : edge s q x = some i)
    (hn : isDir s i = true → ¬ ∃ c, b = a ++ x :: c) (hex : ∀ j, edge s r y = some j → j ≠ i ∧ ∀ z, edge s j z = none) :
    goL (enter (leave s q x) r y i) 0 b = some r ∧ goL (enter (leave s q x) r y i) 0 a = some q ∧ edge (enter (leave s q x) r y i) q x = none ∧ edge (enter (leave s q x) r y i) r y = some i := by
  have drop : ∀ (p t : List ByteArray) (z : ByteArray) (d n : Nat), goL s 0 (p ++ z :: t) = some d → goL s 0 p = some n → ∃ j, edge s n z = some j ∧ goL s j t = some d := fun p t z d n h1 h2 => by
    rw [goL_append, h2] at h1
    have h3 : (edge s n z).bind (fun j => goL s j t) = some d := h1
    cases c : edge s n z with
    | none => rw [c] at h3; cases h3
    | some j => rw [c] at h3; exact ⟨j, rfl, h3⟩
  have nt : ∀ (p t : List ByteArray) (z : ByteArray), p ≠ p ++ z :: t := fun p t z e => by
    have := congrArg List.length e
    simp at this
  refine ⟨?_, ?_, ?_, ?_⟩
  · refine goL_keep b 0 r gb (fun p z t hl n hnn => ?_)
    rw [edge_move dr]
    have h1 : ¬ (n = r ∧ z = y) := fun e => by
      have := u p b r (by rw [hnn, e.1]) gb dr
      rw [hl] at this
      exact nt p t z this
    have h2 : ¬ (n = q ∧ z = x) := fun e => by
      have e1 := u p a q (by rw [hnn, e.1]) ga dq
      rw [e1, e.2] at hl
      by_cases hi : isDir s i = true
      · exact hn hi ⟨t, hl⟩
      · rw [hl] at gb
        obtain ⟨j, g1, g2⟩ := drop a t x r q gb ga
        rw [ei] at g1
        injection g1 with g1
        subst g1
        have := (goL_file (by simpa using hi) g2).2
        rw [this] at dr
        exact hi dr
    rw [if_neg h1, if_neg h2]
  · refine goL_keep a 0 q ga (fun p z t hl n hnn => ?_)
    rw [edge_move dr]
    have h2 : ¬ (n = q ∧ z = x) := fun e => by
      have := u p a q (by rw [hnn, e.1]) ga dq
      rw [hl] at this
      exact nt p t z this
    have h1 : ¬ (n = r ∧ z = y) := fun e => by
      have ga' := ga
      rw [hl] at ga'
      obtain ⟨j, g1, g2⟩ := drop p t z q n ga' hnn
      rw [e.1, e.2] at g1
      obtain ⟨_, h3⟩ := hex j g1
      cases t with
      | nil =>
        injection g2 with g2
        rw [g2] at h3
        exact absurd (h3 x) (by rw [ei]; simp)
      | cons z' t' =>
        have g3 : (edge s j z').bind (fun j => goL s j t') = some q := g2
        rw [h3] at g3
        cases g3
    rw [if_neg h1, if_neg h2]
  · rw [edge_move dr]
    have h1 : ¬ (q = r ∧ x = y) := fun e => by
      have := ei
      rw [e.1, e.2] at this
      exact (hex i this).1 rfl
    rw [if_neg h1, if_pos ⟨rfl, rfl⟩]
  · rw [edge_move dr, if_pos ⟨rfl, rfl⟩]

theorem there_of {s : St} {path : ByteArray} {p : Pl} {i : Nat} (h : walk s path = (p, 0)) (hi : p.is' = some i) : there s path = (p, 0) := by
  unfold there
  simp only [h, hi]
  rfl

theorem there_none {s : St} {path : ByteArray} {p : Pl} (h : walk s path = (p, 0)) (hi : p.is' = none) : there s path = (p, 2) := by
  unfold there
  simp only [h, hi]
  rfl

theorem get_other {s : St} {q i : Nat} {f : Nd → Nd} (h : q ≠ i) : (setNd s q f)[i]? = s[i]? := by rw [getElem?_setNd, if_neg h]

/-- what a rename that answers OK does -/
theorem ren_law {c : Nat} {s : St} (g : Good c s) (u : U s) (o : Op) (hk : o.kind = 9) (hp : paths o = 0) (h : (rename s o).2 = 0) :
    ∃ i p p', there s o.path = (p, 0) ∧ p.is' = some i ∧ there (rename s o).1 o.to' = (p', 0) ∧ p'.is' = some i ∧ (rename s o).1[i]? = s[i]? ∧ i < s.length ∧
      (o.path = o.to' ∨ (there s o.to' = (p', 0) ∧ isDir s i = false ∧ 1 < linksOf s i ∧ (there (rename s o).1 o.path).2 = 0) ∨ (there (rename s o).1 o.path).2 = 2) := by
  obtain ⟨l, h1, h2⟩ := paths_zero hp
  obtain ⟨n1, m, h3, n2⟩ := h2 (by unfold two; simp [hk])
  by_cases hf : (there s o.path).2 = 0
  · by_cases ht : (walk s o.to').2 = 0
    · obtain ⟨i, q, r, a, b, x, y, M, hw⟩ := rename_parts h1 h3 n1 n2 hf ht
      have hR := rename_is M hw
      by_cases cd : isDir s i = true ∧ o.to' ≠ o.path ∧ Nm.below o.to' o.path = true
      · rw [hR, if_pos cd] at h
        exact absurd (show (1 : Int) = 0 from h) (by decide)
      · rw [if_neg cd] at hR
        have hn := not_below M cd
        have hil : i < s.length := goL_lt g.ok (a ++ [x]) 0 i g.ok.pos (goL_snoc.2 ⟨q, M.ga, M.ei⟩)
        have tf : there s o.path = (⟨some q, x, some i⟩, 0) := there_of M.wf rfl
        -- what is done behind a change of links
        have key : ∀ S : St, U S → (∀ n z, edge S n z = edge s n z) → (∀ n, isDir S n = isDir s n) → S[i]? = s[i]? → (∀ j, edge s r y = some j → j ≠ i ∧ ∀ z, edge s j z = none) →
            ∃ p', there (enter (leave S q x) r y i) o.to' = (p', 0) ∧ p'.is' = some i ∧ (enter (leave S q x) r y i)[i]? = s[i]? ∧ (there (enter (leave S q x) r y i) o.path).2 = 2 := fun S uS eS dS gS hex => by
          have mono : ∀ (l : List ByteArray) (i d : Nat), goL s i l = some d → goL S i l = some d := goL_mono (fun i x j e => by rw [eS]; exact e)
          obtain ⟨k1, k2, k3, k4⟩ := moved_walks (s := S) uS (mono _ _ _ M.ga) (mono _ _ _ M.gb) (by rw [dS]; exact M.dq) (by rw [dS]; exact M.dr) (by rw [eS]; exact M.ei) (by rw [dS]; exact hn) (fun j e => by
            rw [eS] at e
            exact ⟨(hex j e).1, fun z => by rw [eS]; exact (hex j e).2 z⟩)
          have dd : ∀ n, isDir (enter (leave S q x) r y i) n = isDir s n := fun n => by rw [isDir_enter, isDir_leave, dS]
          have wt := walk_of M.st k1 (by rw [dd]; exact M.dr)
          have wf := walk_of M.sf k2 (by rw [dd]; exact M.dq)
          rw [← edge_at (by rw [dd]; exact M.dr), k4] at wt
          rw [← edge_at (by rw [dd]; exact M.dq), k3] at wf
          refine ⟨_, there_of wt rfl, rfl, ?_, by rw [there_none wf rfl]⟩
          have hqi : q ≠ i := fun e => by
            subst e
            have := u _ _ q M.ga (goL_snoc.2 ⟨q, M.ga, M.ei⟩) M.dq
            have := congrArg List.length this
            simp at this
          have hri : r ≠ i := fun e => by
            subst e
            have := u _ _ r M.gb (goL_snoc.2 ⟨q, M.ga, M.ei⟩) M.dr
            refine cd ⟨M.dr, fun e => ?_, (below_iff M.st M.sf).2 ⟨[y], by rw [this]⟩⟩
            have e1 := M.st
            rw [e, M.sf] at e1
            injection e1 with e1
            have := congrArg List.length e1
            rw [‹b = a ++ [x]›] at this
            simp at this
          unfold enter leave
          rw [get_other hri, get_other hqi, gS]
        cases e : edge s r y with
        | none =>
          rw [e] at hR
          obtain ⟨p', q1, q2, q3, q4⟩ := key s u (fun _ _ => rfl) (fun _ => rfl) rfl (fun j hj => by rw [e] at hj; cases hj)
          rw [hR]
          exact ⟨i, _, p', tf, rfl, q1, q2, q3, hil, Or.inr (Or.inr q4)⟩
        | some j =>
          rw [e] at hR
          simp only at hR
          by_cases hj : j = i
          · subst hj
            rw [if_pos rfl] at hR
            rw [hR]
            have tt : there s o.to' = (⟨some r, y, some j⟩, 0) := there_of (by rw [M.wt, e]) rfl
            refine ⟨j, _, _, tf, rfl, tt, rfl, rfl, hil, ?_⟩
            by_cases hpt : o.path = o.to'
            · exact Or.inl hpt
            · right; left
              have hne : ¬ (a ++ [x] = b ++ [y]) := fun z => hpt (path_same M.sf (by rw [M.st, z]))
              have hnd : isDir s j = false := by
                cases d : isDir s j with
                | false => rfl
                | true => exact absurd (u _ _ j (goL_snoc.2 ⟨q, M.ga, M.ei⟩) (goL_snoc.2 ⟨r, M.gb, e⟩) d) hne
              refine ⟨tt, hnd, ?_, by rw [tf]⟩
              obtain ⟨qd, hqn, _⟩ := isDir_lt M.dq
              have hx : look qd.ents x = some j := by have := M.ei; rw [edge_at M.dq, entsOf_get hqn] at this; exact this
              have hc := cnt_leave hqn (g.bd q qd hqn).dk x j
              rw [hx, if_pos rfl] at hc
              have hlv : edge (leave s q x) r y = some j := by
                rw [edge_leave]
                by_cases z : r = q ∧ y = x
                · exfalso
                  refine hne ?_
                  have := u a b q M.ga (by rw [M.gb, z.1]) M.dq
                  rw [this, z.2]
                · rw [if_neg z]; exact e
              have hrd : isDir (leave s q x) r = true := by rw [isDir_leave]; exact M.dr
              obtain ⟨rd, hrn, _⟩ := isDir_lt hrd
              rw [edge_at hrd, entsOf_get hrn] at hlv
              have hpos := cnt_pos hrn hlv
              obtain ⟨nd, hnn⟩ : ∃ nd, s[j]? = some nd := ⟨_, List.getElem?_eq_getElem hil⟩
              have hdf : nd.dir = false := by unfold isDir at hnd; rw [hnn] at hnd; exact hnd
              have := g.cnt j nd hnn hdf
              unfold linksOf
              rw [hnn]
              show 1 < nd.links
              omega
          · rw [if_neg hj] at hR
            by_cases hrep : replaces s i j ≠ 0
            · rw [if_pos hrep] at hR
              rw [hR] at h
              exact absurd h hrep
            · rw [if_neg hrep] at hR
              have hrep' : replaces s i j = 0 := Decidable.not_not.1 hrep
              have hempty : entsOf s j = [] := by
                unfold replaces at hrep'
                by_cases c1 : isDir s i = false ∧ isDir s j = true
                · rw [if_pos c1] at hrep'; exact absurd hrep' (by decide)
                · rw [if_neg c1] at hrep'
                  by_cases c2 : isDir s i = true ∧ isDir s j = false
                  · rw [if_pos c2] at hrep'; exact absurd hrep' (by decide)
                  · rw [if_neg c2] at hrep'
                    by_cases c3 : 0 < (entsOf s j).length
                    · rw [if_pos c3] at hrep'; exact absurd hrep' (by decide)
                    · exact List.eq_nil_of_length_eq_zero (by omega)
              obtain ⟨p', q1, q2, q3, q4⟩ := key (more s j (-1)) (U_more u j (-1)) (fun n z => edge_more s j (-1) n z) (fun n => isDir_more s j (-1) n) (get_other hj) (fun j' hj' => by
                rw [e] at hj'
                injection hj' with hj'
                subst hj'
                refine ⟨hj, fun z => ?_⟩
                unfold edge
                rw [hempty]
                split <;> rfl)
              rw [hR]
              exact ⟨i, _, p', tf, rfl, q1, q2, q3, hil, Or.inr (Or.inr q4)⟩
    · unfold rename at h
      simp only at h
      rw [if_neg (fun z => z hf), if_pos ht] at h
      exact absurd h ht
  · unfold rename at h
    simp only at h
    rw [if_pos hf] at h
    exact absurd h hf
end Md
end Go.Proofs.YtbmbjedpeepnfaaDoor

/-
  Package model, plain: what is listed: a directory's names rise; each leads somewhere; a file that was never linked has one link. No program in sight. No condition.
-/
namespace Go.Proofs.YtbmbjedpeepnfaaDoor
open Go.RowKit

namespace Md
theorem leS_le (a b : ByteArray) : leS a b = decide (a.data.toList ≤ b.data.toList) := by
  unfold leS
  rw [bytesLess_eq]
  by_cases h : b.data.toList < a.data.toList
  · rw [decide_eq_true h, decide_eq_false (List.not_le.2 h)]; rfl
  · rw [decide_eq_false h, decide_eq_true (List.not_lt.1 h)]; rfl

theorem data_inj {a b : ByteArray} (h : a.data.toList = b.data.toList) : a = b := by
  have : a.data = b.data := by rw [← Array.toArray_toList (xs := a.data), h]
  cases a; cases b; exact congrArg _ this

theorem names_perm (l : List (ByteArray × Nat)) : (names l).Perm (l.map (·.1)) := List.mergeSort_perm _ _
theorem names_length (l : List (ByteArray × Nat)) : (names l).length = l.length := by unfold names; rw [List.length_mergeSort, List.length_map]

theorem mem_names {l : List (ByteArray × Nat)} {x : ByteArray} : x ∈ names l ↔ ∃ v, (x, v) ∈ l := by
  rw [(names_perm l).mem_iff]
  simp

theorem names_le (l : List (ByteArray × Nat)) : (names l).Pairwise (fun a b => leS a b = true) := by
  refine List.pairwise_mergeSort (fun a b c h1 h2 => ?_) (fun a b => ?_) _
  · rw [leS_le, decide_eq_true_eq] at *; exact List.le_trans h1 h2
  · rw [leS_le, leS_le, Bool.or_eq_true, decide_eq_true_eq, decide_eq_true_eq]; exact List.le_total _ _

theorem names_nodup {l : List (ByteArray × Nat)} (d : Dk l) : (names l).Nodup :=
  (names_perm l).nodup_iff.2 (List.pairwise_map.2 d)

/-- names rise -/
theorem names_rise {l : List (ByteArray × Nat)} (d : Dk l) : (names l).Pairwise (fun a b => leS b a = false) := by
  refine ((names_le l).and (names_nodup d)).imp (fun {a b} h => ?_)
  obtain ⟨h1, h2⟩ := h
  cases c : leS b a with
  | false => rfl
  | true =>
    rw [leS_le, decide_eq_true_eq] at h1 c
    exact absurd (data_inj (List.le_antisymm h1 c)) h2

/-- a path that leads to node i -/
structure At (s : St) (path : ByteArray) (l : List ByteArray) (i : Nat) : Prop where
  sp : Nm.split path = some l
  go : goL s 0 l = some i

theorem At.there {s : St} {path : ByteArray} {l : List ByteArray} {i : Nat} (h : At s path l i) : ∃ p, there s path = (p, 0) ∧ p.is' = some i := by
  rcases List.eq_nil_or_concat l with rfl | ⟨a, x, rfl⟩
  · have e := h.go
    injection e with e
    refine ⟨⟨none, ⟨#[]⟩, some 0⟩, ?_, by rw [e]⟩
    unfold Md.there walk
    rw [h.sp]
    rfl
  · rw [List.concat_eq_append] at h
    obtain ⟨q, h1, h2⟩ := goL_snoc.1 h.go
    have hd := edge_dir h2
    have w := walk_of h.sp h1 hd
    rw [← edge_at hd, h2] at w
    refine ⟨⟨some q, x, some i⟩, ?_, rfl⟩
    unfold Md.there
    simp only [w]
    rfl

theorem At.lt {s : St} (k : Ok s) {path : ByteArray} {l : List ByteArray} {i : Nat} (h : At s path l i) : i < s.length := goL_lt k l 0 i k.pos h.go

theorem At.root (s : St) : At s slash [] 0 := ⟨by decide +kernel, rfl⟩

theorem At.child {s : St} {path : ByteArray} {l : List ByteArray} {i j : Nat} {x : ByteArray} (h : At s path l i) (hd : isDir s i = true) (hx : look (entsOf s i) x = some j) (hs : Nm.split (Nm.jtx (l ++ [x])) = some (l ++ [x])) : At s (Nm.jtx (l ++ [x])) (l ++ [x]) j :=
  ⟨hs, goL_snoc.2 ⟨i, h.go, by rw [edge_at hd]; exact hx⟩⟩

/-- a file that is led to has a link at least -/
theorem At.links {c : Nat} {s : St} (g : Good c s) {path : ByteArray} {l : List ByteArray} {i : Nat} (h : At s path l i) (hf : isDir s i = false) : 1 ≤ linksOf s i := by
  obtain ⟨nd, hn⟩ : ∃ nd, s[i]? = some nd := ⟨_, List.getElem?_eq_getElem (h.lt g.ok)⟩
  have hdf : nd.dir = false := by unfold isDir at hf; rw [hn] at hf; exact hf
  have hc := g.cnt i nd hn hdf
  rcases List.eq_nil_or_concat l with rfl | ⟨a, x, rfl⟩
  · have e := h.go
    injection e with e
    subst e
    rw [g.ok.root] at hf; cases hf
  · have hgo := h.go
    rw [List.concat_eq_append] at hgo
    obtain ⟨q, _, h2⟩ := goL_snoc.1 hgo
    have hd := edge_dir h2
    obtain ⟨qd, hq, _⟩ := isDir_lt hd
    rw [edge_at hd, entsOf_get hq] at h2
    have := cnt_pos hq h2
    unfold linksOf
    rw [hn]
    show 1 ≤ nd.links
    omega

/-- no file has two links -/
def One (s : St) : Prop := ∀ (i : Nat) (nd : Nd), s[i]? = some nd → nd.dir = false → nd.links ≤ 1

theorem One.setNd {s : St} (h : One s) (q : Nat) (f : Nd → Nd) (hf : ∀ nd, (f nd).dir = nd.dir ∧ (f nd).links ≤ nd.links) : One (setNd s q f) := fun i nd hn hd => by
  obtain ⟨md, h1, h2⟩ := get_setNd hn
  by_cases e : q = i
  · rw [if_pos e] at h2
    have := hf md
    have := h i md h1 (by rw [← this.1, ← h2]; exact hd)
    rw [h2]; omega
  · rw [if_neg e] at h2
    rw [h2] at hd ⊢
    exact h i md h1 hd

theorem One.leave {s : St} (h : One s) (q : Nat) (x : ByteArray) : One (leave s q x) := h.setNd q _ (fun _ => ⟨rfl, Int.le_refl _⟩)
theorem One.enter {s : St} (h : One s) (q : Nat) (x : ByteArray) (v : Nat) : One (enter s q x v) := h.setNd q _ (fun _ => ⟨rfl, Int.le_refl _⟩)
theorem One.less {s : St} (h : One s) (i : Nat) : One (more s i (-1)) := h.setNd i _ (fun nd => ⟨rfl, by show nd.links + -1 ≤ _; omega⟩)
theorem One.push {s : St} (h : One s) {nd : Nd} (hl : nd.links ≤ 1) : One (s ++ [nd]) := fun i md hn hd => by
  by_cases e : i < s.length
  · rw [List.getElem?_append_left e] at hn
    exact h i md hn hd
  · rw [List.getElem?_append_right (by omega)] at hn
    have hi : i - s.length = 0 := by
      have := (List.getElem?_eq_some_iff.1 hn).1
      simp at this
      omega
    rw [hi] at hn
    simp at hn
    subst hn
    exact hl

theorem One_step {s : St} (h : One s) (o : Op) (hk : o.kind ≠ 10) : One (step s o).1 := by
  unfold step
  by_cases p : paths o ≠ 0
  · rw [if_pos p]; exact h
  rw [if_neg p]
  clear p
  by_cases p : numbers o ≠ 0
  · rw [if_pos p]; exact h
  rw [if_neg p]
  clear p
  by_cases p : o.kind = 1
  · rw [if_pos p]; exact h
  rw [if_neg p]
  clear p
  by_cases p : o.kind = 2
  · rw [if_pos p]; exact h
  rw [if_neg p]
  clear p
  by_cases p : o.kind = 3
  · rw [if_pos p]; exact h
  rw [if_neg p]
  clear p
  by_cases p : o.kind = 4
  · rw [if_pos p]
    unfold write
    simp only
    split
    · split
      · exact h
      · exact h.setNd _ _ (fun _ => ⟨rfl, Int.le_refl _⟩)
    · exact h
  rw [if_neg p]
  clear p
  by_cases p : o.kind = 11
  · rw [if_pos p]
    unfold truncate
    simp only
    split
    · exact h.setNd _ _ (fun _ => ⟨rfl, Int.le_refl _⟩)
    · exact h
  rw [if_neg p]
  clear p
  by_cases p : o.kind = 5 ∨ o.kind = 6
  · rw [if_pos p]
    unfold create
    simp only
    split
    · split
      · exact h
      · exact (h.push (by split <;> decide)).enter _ _ _
      · exact h
    · exact h
  rw [if_neg p]
  clear p
  by_cases p : o.kind = 7
  · rw [if_pos p]
    unfold unlink
    simp only
    split
    · exact (h.leave _ _).less _
    · exact h
  rw [if_neg p]
  clear p
  by_cases p : o.kind = 8
  · rw [if_pos p]
    unfold rmdir
    simp only
    split
    · split
      · split
        · exact h
        · split
          · exact h.leave _ _
          · exact h
      · exact h
    · exact h
  rw [if_neg p]
  clear p
  rw [if_neg hk]
  by_cases p : o.kind = 9
  · rw [if_pos p]
    unfold rename
    simp only
    split
    · exact h
    · split
      · exact h
      · split
        · split
          · exact h
          · split
            · split
              · exact h
              · split
                · exact h
                · exact ((h.less _).leave _ _).enter _ _ _
            · exact (h.leave _ _).enter _ _ _
        · exact h
  rw [if_neg p]
  exact h

theorem One_new : One new := fun i nd hn hd => by
  have hi : i = 0 := by
    have := (List.getElem?_eq_some_iff.1 hn).1
    simp [new] at this
    exact this
  subst hi
  simp [new] at hn
  subst hn
  cases hd
end Md
end Go.Proofs.YtbmbjedpeepnfaaDoor

/-
  Package model, plain: entries have right names; an op makes one entry at most; what is taken away is one less. No program in sight. No condition.
-/
namespace Go.Proofs.YtbmbjedpeepnfaaDoor
open Go.RowKit

namespace Md
/-- all entries have right names -/
def Rn (s : St) : Prop := ∀ (i : Nat) (nd : Nd), s[i]? = some nd → ∀ p ∈ nd.ents, Nm.right p.1 = true

theorem Rn.setNd {s : St} (h : Rn s) (q : Nat) (f : Nd → Nd) (hf : ∀ nd, s[q]? = some nd → ∀ p ∈ (f nd).ents, p ∈ nd.ents ∨ Nm.right p.1 = true) : Rn (setNd s q f) := fun i nd hn p hp => by
  obtain ⟨md, h1, h2⟩ := get_setNd hn
  by_cases e : q = i
  · subst e
    rw [if_pos rfl] at h2
    rw [h2] at hp
    rcases hf md h1 p hp with h3 | h3
    · exact h q md h1 p h3
    · exact h3
  · rw [if_neg e] at h2
    rw [h2] at hp
    exact h i md h1 p hp

theorem Rn.leave {s : St} (h : Rn s) (q : Nat) (x : ByteArray) : Rn (leave s q x) := h.setNd q _ (fun _ _ _ hp => Or.inl (mem_del hp))
theorem Rn.more {s : St} (h : Rn s) (q : Nat) (d : Int) : Rn (more s q d) := h.setNd q _ (fun _ _ _ hp => Or.inl hp)
theorem Rn.enter {s : St} (h : Rn s) (q : Nat) {x : ByteArray} (hx : Nm.right x = true) (v : Nat) : Rn (enter s q x v) := h.setNd q _ (fun _ _ p hp => by
  rcases List.mem_cons.1 hp with rfl | hp
  · exact Or.inr hx
  · exact Or.inl (mem_del hp))
theorem Rn.push {s : St} (h : Rn s) {nd : Nd} (he : nd.ents = []) : Rn (s ++ [nd]) := fun i md hn p hp => by
  by_cases e : i < s.length
  · rw [List.getElem?_append_left e] at hn
    exact h i md hn p hp
  · rw [List.getElem?_append_right (by omega)] at hn
    have hi : i - s.length = 0 := by
      have := (List.getElem?_eq_some_iff.1 hn).1
      simp at this
      omega
    rw [hi] at hn
    simp at hn
    subst hn
    rw [he] at hp
    cases hp

theorem walkP_name {s : St} : ∀ (l : List ByteArray) (p : Pl), (∀ x ∈ l, Nm.right x = true) → (∀ q, p.parent = some q → Nm.right p.name = true) → ∀ q, (walkP s p l).1.parent = some q → Nm.right (walkP s p l).1.name = true
  | [], _, _, hp, q, h => hp q h
  | x :: l, p, hl, _, q, h => by
    unfold walkP at h ⊢
    cases e : p.is' with
    | none => rw [e] at h; cases h
    | some i =>
      rw [e] at h
      simp only at h ⊢
      by_cases d : isDir s i = true
      · rw [if_pos d] at h ⊢
        exact walkP_name l _ (fun y hy => hl y (List.mem_cons_of_mem _ hy)) (fun _ _ => hl x List.mem_cons_self) q h
      · rw [if_neg d] at h
        cases h

theorem walk_name {s : St} {path : ByteArray} {q : Nat} (h : (walk s path).1.parent = some q) : Nm.right (walk s path).1.name = true := by
  unfold walk at h ⊢
  cases e : Nm.split path with
  | none => rw [e] at h; cases h
  | some l =>
    rw [e] at h
    exact walkP_name l _ (Nm.split_some e).2.1 (fun _ h => by cases h) q h

theorem Rn_step {s : St} (h : Rn s) (o : Op) : Rn (step s o).1 := by
  have w1 := @walk_name s o.path
  have w2 := @walk_name s o.to'
  unfold step
  by_cases p : paths o ≠ 0
  · rw [if_pos p]; exact h
  rw [if_neg p]
  clear p
  by_cases p : numbers o ≠ 0
  · rw [if_pos p]; exact h
  rw [if_neg p]
  clear p
  by_cases p : o.kind = 1
  · rw [if_pos p]; exact h
  rw [if_neg p]
  clear p
  by_cases p : o.kind = 2
  · rw [if_pos p]; exact h
  rw [if_neg p]
  clear p
  by_cases p : o.kind = 3
  · rw [if_pos p]; exact h
  rw [if_neg p]
  clear p
  by_cases p : o.kind = 4
  · rw [if_pos p]
    unfold write
    simp only
    split
    · split
      · exact h
      · exact h.setNd _ _ (fun _ _ _ hp => Or.inl hp)
    · exact h
  rw [if_neg p]
  clear p
  by_cases p : o.kind = 11
  · rw [if_pos p]
    unfold truncate
    simp only
    split
    · exact h.setNd _ _ (fun _ _ _ hp => Or.inl hp)
    · exact h
  rw [if_neg p]
  clear p
  by_cases p : o.kind = 5 ∨ o.kind = 6
  · rw [if_pos p]
    unfold create
    simp only
    split
    · split
      · exact h
      · rename_i q _ hq
        exact (h.push (by split <;> rfl)).enter _ (w1 hq) _
      · exact h
    · exact h
  rw [if_neg p]
  clear p
  by_cases p : o.kind = 7
  · rw [if_pos p]
    unfold unlink
    simp only
    split
    · exact (h.leave _ _).more _ _
    · exact h
  rw [if_neg p]
  clear p
  by_cases p : o.kind = 8
  · rw [if_pos p]
    unfold rmdir
    simp only
    split
    · split
      · split
        · exact h
        · split
          · exact h.leave _ _
          · exact h
      · exact h
    · exact h
  rw [if_neg p]
  clear p
  by_cases p : o.kind = 10
  · rw [if_pos p]
    unfold link
    simp only
    split
    · split
      · split
        · exact h
        · rename_i q _ hq
          split
          · exact h
          · exact (h.more _ _).enter _ (w2 hq) _
        · exact h
      · exact h
    · exact h
  rw [if_neg p]
  clear p
  by_cases p : o.kind = 9
  · rw [if_pos p]
    unfold rename
    simp only
    split
    · exact h
    · split
      · exact h
      · split
        · rename_i i q r _ _ hr
          split
          · exact h
          · split
            · split
              · exact h
              · split
                · exact h
                · exact ((h.more _ _).leave _ _).enter _ (w2 hr) _
            · exact (h.leave _ _).enter _ (w2 hr) _
        · exact h
  rw [if_neg p]
  exact h

theorem Rn_new : Rn new := fun i nd hn p hp => by
  have hi : i = 0 := by
    have := (List.getElem?_eq_some_iff.1 hn).1
    simp [new] at this
    exact this
  subst hi
  simp [new] at hn
  subst hn
  cases hp

theorem all_leave {s : St} {q : Nat} {nd : Nd} (h : s[q]? = some nd) (d : Dk nd.ents) {x : ByteArray} {v : Nat} (hx : look nd.ents x = some v) : all (leave s q x) + 1 = all s := by
  have h1 := tot_setNd (f := fun nd => nd.ents.length) (g := fun nd => { nd with ents := del nd.ents x }) h
  have h2 := del_length d x
  rw [hx] at h2
  simp at h2
  unfold all leave
  simp only at h1
  omega

theorem all_leave_le (s : St) (q : Nat) (x : ByteArray) : all (leave s q x) ≤ all s := by
  cases h : s[q]? with
  | none =>
    have : leave s q x = s := by
      apply List.ext_getElem?
      intro j
      unfold leave
      rw [getElem?_setNd]
      by_cases e : q = j
      · subst e; rw [if_pos rfl, h]; rfl
      · rw [if_neg e]
    rw [this]
    exact Nat.le_refl _
  | some nd =>
    have h1 := tot_setNd (f := fun nd => nd.ents.length) (g := fun nd => { nd with ents := del nd.ents x }) h
    have h2 := del_le nd.ents x
    unfold all leave
    simp only at h1
    omega

theorem all_enter_le (s : St) (q : Nat) (x : ByteArray) (v : Nat) : all (enter s q x v) ≤ all s + 1 := by
  cases h : s[q]? with
  | none =>
    have : enter s q x v = s := by
      apply List.ext_getElem?
      intro j
      unfold enter
      rw [getElem?_setNd]
      by_cases e : q = j
      · subst e; rw [if_pos rfl, h]; rfl
      · rw [if_neg e]
    rw [this]
    omega
  | some nd =>
    have h1 := tot_setNd (f := fun nd => nd.ents.length) (g := fun nd => { nd with ents := put nd.ents x v }) h
    have h2 := del_le nd.ents x
    have h3 : (put nd.ents x v).length = (del nd.ents x).length + 1 := rfl
    unfold all enter
    simp only at h1
    omega

theorem all_more (s : St) (i : Nat) (d : Int) : all (more s i d) = all s := tot_same (fun _ => rfl)
theorem all_data (s : St) (i : Nat) (f : Nd → List UInt8) : all (setNd s i fun nd => { nd with data := f nd }) = all s := tot_same (fun _ => rfl)
theorem all_push (s : St) {nd : Nd} (h : nd.ents = []) : all (s ++ [nd]) = all s := by
  unfold all
  rw [tot_push, h]
  rfl

theorem all_step (s : St) (o : Op) : all (step s o).1 ≤ all s + 1 := by
  unfold step
  by_cases p : paths o ≠ 0
  · rw [if_pos p]; exact Nat.le_succ _
  rw [if_neg p]
  clear p
  by_cases p : numbers o ≠ 0
  · rw [if_pos p]; exact Nat.le_succ _
  rw [if_neg p]
  clear p
  by_cases p : o.kind = 1
  · rw [if_pos p]; exact Nat.le_succ _
  rw [if_neg p]
  clear p
  by_cases p : o.kind = 2
  · rw [if_pos p]; exact Nat.le_succ _
  rw [if_neg p]
  clear p
  by_cases p : o.kind = 3
  · rw [if_pos p]; exact Nat.le_succ _
  rw [if_neg p]
  clear p
  by_cases p : o.kind = 4
  · rw [if_pos p]
    unfold write
    simp only
    split
    · split
      · exact Nat.le_succ _
      · rw [all_data]; exact Nat.le_succ _
    · exact Nat.le_succ _
  rw [if_neg p]
  clear p
  by_cases p : o.kind = 11
  · rw [if_pos p]
    unfold truncate
    simp only
    split
    · rw [all_data]; exact Nat.le_succ _
    · exact Nat.le_succ _
  rw [if_neg p]
  clear p
  by_cases p : o.kind = 5 ∨ o.kind = 6
  · rw [if_pos p]
    unfold create
    simp only
    split
    · split
      · exact Nat.le_succ _
      · refine Nat.le_trans (all_enter_le _ _ _ _) ?_
        rw [all_push s (by split <;> rfl)]
        exact Nat.le_refl _
      · exact Nat.le_succ _
    · exact Nat.le_succ _
  rw [if_neg p]
  clear p
  by_cases p : o.kind = 7
  · rw [if_pos p]
    unfold unlink
    simp only
    split
    · rw [all_more]
      exact Nat.le_succ_of_le (all_leave_le _ _ _)
    · exact Nat.le_succ _
  rw [if_neg p]
  clear p
  by_cases p : o.kind = 8
  · rw [if_pos p]
    unfold rmdir
    simp only
    split
    · split
      · split
        · exact Nat.le_succ _
        · split
          · exact Nat.le_succ_of_le (all_leave_le _ _ _)
          · exact Nat.le_succ _
      · exact Nat.le_succ _
    · exact Nat.le_succ _
  rw [if_neg p]
  clear p
  by_cases p : o.kind = 10
  · rw [if_pos p]
    unfold link
    simp only
    split
    · split
      · split
        · exact Nat.le_succ _
        · split
          · exact Nat.le_succ _
          · refine Nat.le_trans (all_enter_le _ _ _ _) ?_
            rw [all_more]
            exact Nat.le_refl _
        · exact Nat.le_succ _
      · exact Nat.le_succ _
    · exact Nat.le_succ _
  rw [if_neg p]
  clear p
  by_cases p : o.kind = 9
  · rw [if_pos p]
    unfold rename
    simp only
    split
    · exact Nat.le_succ _
    · split
      · exact Nat.le_succ _
      · split
        · split
          · exact Nat.le_succ _
          · split
            · split
              · exact Nat.le_succ _
              · split
                · exact Nat.le_succ _
                · refine Nat.le_trans (all_enter_le _ _ _ _) (Nat.succ_le_succ ?_)
                  refine Nat.le_trans (all_leave_le _ _ _) ?_
                  rw [all_more]
                  exact Nat.le_refl _
            · exact Nat.le_trans (all_enter_le _ _ _ _) (Nat.succ_le_succ (all_leave_le _ _ _))
        · exact Nat.le_succ _
  rw [if_neg p]
  exact Nat.le_succ _

theorem all_new : all new = 0 := rfl
theorem all_empty {s : St} (h : all s = 0) (i : Nat) : entsOf s i = [] := by
  unfold entsOf
  cases e : s[i]? with
  | none => rfl
  | some nd =>
    have := tot_ge (f := fun nd => nd.ents.length) e
    unfold all at h
    show nd.ents = []
    exact List.eq_nil_of_length_eq_zero (by omega)
end Md
end Go.Proofs.YtbmbjedpeepnfaaDoor

/-
  The small case that each law of package model begins with, plain: six ops, one behind the other. No program in sight. No condition.
-/
namespace Go.Proofs.YtbmbjedpeepnfaaDoor
open Go.RowKit
namespace Md
def a1 : ByteArray := ⟨#[97]⟩
def d1 : ByteArray := ⟨#[100]⟩
def S1 : St := [⟨true, [(a1, 1)], [], 0⟩, ⟨false, [], [], 1⟩]
theorem st1 : step new ⟨5, ⟨#[47, 97]⟩, ⟨#[]⟩, 0, 0, ⟨#[]⟩⟩ = (S1, er 0) := by kernel_rfl
def S2 : St := [⟨true, [(a1, 1)], [], 0⟩, ⟨false, [], [0, 0, 120], 1⟩]
theorem st2 : step S1 ⟨4, ⟨#[47, 97]⟩, ⟨#[]⟩, 2, 0, ⟨#[120]⟩⟩ = (S2, er 0) := by kernel_rfl
theorem st3 : step S2 ⟨3, ⟨#[47, 97]⟩, ⟨#[]⟩, 0, 9, ⟨#[]⟩⟩ = (S2, ⟨0, ⟨#[0, 0, 120]⟩, [], false, 0, 0⟩) := by kernel_rfl
def S4 : St := [⟨true, [(d1, 2), (a1, 1)], [], 0⟩, ⟨false, [], [0, 0, 120], 1⟩, ⟨true, [], [], 0⟩]
theorem st4 : step S2 ⟨6, ⟨#[47, 100]⟩, ⟨#[]⟩, 0, 0, ⟨#[]⟩⟩ = (S4, er 0) := by kernel_rfl
theorem st5 : step S4 ⟨9, ⟨#[47, 100]⟩, ⟨#[47, 100, 47, 101]⟩, 0, 0, ⟨#[]⟩⟩ = (S4, er 1) := by kernel_rfl
theorem st6' : step S4 ⟨2, ⟨#[47]⟩, ⟨#[]⟩, 0, 0, ⟨#[]⟩⟩ = (S4, ⟨0, ⟨#[]⟩, names [(d1, 2), (a1, 1)], false, 0, 0⟩) := by kernel_rfl
theorem two_names : names [(d1, 2), (a1, 1)] = [a1, d1] := by
  refine List.Perm.eq_of_pairwise (le := fun a b => leS a b = true) (fun a b _ _ h1 h2 => ?_) (names_le _) ?_ ((names_perm _).trans (List.Perm.swap _ _ _))
  · rw [leS_le, decide_eq_true_eq] at h1 h2
    exact data_inj (List.le_antisymm h1 h2)
  · refine List.pairwise_cons.2 ⟨fun b hb => ?_, List.pairwise_cons.2 ⟨fun b hb => (by cases hb), List.Pairwise.nil⟩⟩
    simp at hb
    subst hb
    kernel_rfl
theorem st6 : step S4 ⟨2, ⟨#[47]⟩, ⟨#[]⟩, 0, 0, ⟨#[]⟩⟩ = (S4, ⟨0, ⟨#[]⟩, [a1, d1], false, 0, 0⟩) := by rw [← two_names]; exact st6'
end Md
end Go.Proofs.YtbmbjedpeepnfaaDoor

/-
  ModelRenames, plain: what is told ahead of a rename and behind it. No program in sight. No condition.
-/
namespace Go.Proofs.YtbmbjedpeepnfaaDoor
open Go.RowKit

namespace Md
/-- an op that tells -/
def tell (k : Int) (p : ByteArray) (n : Int) : Op := ⟨k, p, ⟨#[]⟩, 0, n, ⟨#[]⟩⟩

theorem step_tell (s : St) (o : Op) (h : o.kind = 1 ∨ o.kind = 2 ∨ o.kind = 3) : step s o = (s, (step s o).2) := by
  unfold step
  by_cases p : paths o ≠ 0
  · rw [if_pos p]
  rw [if_neg p]
  by_cases q : numbers o ≠ 0
  · rw [if_pos q]
  rw [if_neg q]
  rcases h with h | h | h <;> simp [h]

theorem stat_err (s : St) (o : Op) : (stat s o).err = (there s o.path).2 := by
  have hs := there_some s o.path
  unfold stat
  simp only
  cases e : (there s o.path).1.is' with
  | none => rfl
  | some i =>
    by_cases c : (there s o.path).2 = 0
    · simp [c]
    · simp [c]; rfl

theorem tell_paths {k : Int} {p : ByteArray} {n : Int} (hk : k = 1 ∨ k = 2 ∨ k = 3) {l : List ByteArray} (h : Nm.split p = some l) : paths (tell k p n) = 0 := by
  unfold paths
  have : two (tell k p n) = false := by
    unfold two tell
    rcases hk with e | e | e <;> subst e <;> rfl
  rw [this]
  show (if (Nm.split p).isNone = true then (1 : Int) else 0) = 0
  rw [h]; rfl

theorem tell_numbers {k : Int} {p : ByteArray} {n : Int} (hk : k = 1 ∨ k = 2 ∨ k = 3) (h0 : 0 ≤ n) (h1 : n ≤ 4096) : numbers (tell k p n) = 0 := by
  unfold numbers tell first
  rcases hk with e | e | e <;> subst e <;> simp <;> omega

/-- what is told of a node -/
def told (s : St) (i : Nat) (k n : Int) : Rep :=
  if k = 1 then ⟨0, ⟨#[]⟩, [], isDir s i, linksOf s i, (dataOf s i).length⟩
  else if k = 2 then (if isDir s i then ⟨0, ⟨#[]⟩, names (entsOf s i), false, 0, 0⟩ else er 4)
  else if isDir s i then er 5 else ⟨0, ⟨(((dataOf s i).drop 0).take n.toNat).toArray⟩, [], false, 0, 0⟩

theorem tell_is {s : St} {p : ByteArray} {l : List ByteArray} {q : Pl} {i : Nat} (hl : Nm.split p = some l) (ht : there s p = (q, 0)) (hi : q.is' = some i) {k n : Int} (hk : k = 1 ∨ k = 2 ∨ k = 3) (h0 : 0 ≤ n) (h1 : n ≤ 4096) : (step s (tell k p n)).2 = told s i k n := by
  unfold step
  rw [if_neg (by rw [tell_paths hk hl]; simp), if_neg (by rw [tell_numbers hk h0 h1]; simp)]
  rcases hk with e | e | e
  · subst e
    show (if (1 : Int) = 1 then (s, stat s (tell 1 p n)) else _).2 = _
    rw [if_pos rfl]
    show stat s (tell 1 p n) = _
    unfold stat
    simp only
    rw [show (tell 1 p n).path = p from rfl, ht, hi]
    rfl
  · subst e
    show (if (2 : Int) = 1 then _ else if (2 : Int) = 2 then (s, list s (tell 2 p n)) else _).2 = _
    rw [if_neg (by decide), if_pos rfl]
    show list s (tell 2 p n) = _
    unfold list
    simp only
    rw [show (tell 2 p n).path = p from rfl, ht, hi]
    rfl
  · subst e
    show (if (3 : Int) = 1 then _ else if (3 : Int) = 2 then _ else if (3 : Int) = 3 then (s, read s (tell 3 p n)) else _).2 = _
    rw [if_neg (by decide), if_neg (by decide), if_pos rfl]
    show read s (tell 3 p n) = _
    have hf : file s p = if isDir s i = true then (some i, 5) else (some i, 0) := by
      unfold file
      simp only [ht, hi]
      by_cases d : isDir s i = true <;> simp [d]
    unfold read
    simp only
    rw [show (tell 3 p n).path = p from rfl, hf]
    show _ = (if isDir s i = true then er 5 else (⟨0, ⟨(((dataOf s i).drop 0).take n.toNat).toArray⟩, [], false, 0, 0⟩ : Rep))
    by_cases d : isDir s i = true
    · rw [if_pos d, if_pos d]; rfl
    · rw [if_neg d, if_neg d]; rfl

theorem told_same {s s' : St} {i : Nat} (h : s'[i]? = s[i]?) (k n : Int) : told s' i k n = told s i k n := by
  unfold told isDir linksOf dataOf entsOf
  rw [h]

/-- a rename, told -/
theorem ren_plain {c : Nat} {s : St} (g : Good c s) (u : U s) (F G : ByteArray) (hx : (step s ⟨9, F, G, 0, 0, ⟨#[]⟩⟩).2.err = 0) :
    (∀ k n, k = 1 ∨ k = 2 ∨ k = 3 → 0 ≤ n → n ≤ 4096 → (step (step s ⟨9, F, G, 0, 0, ⟨#[]⟩⟩).1 (tell k G n)).2 = (step s (tell k F n)).2) ∧ (step s (tell 1 F 0)).2.err = 0 ∧
    (F = G ∨ ((step s (tell 1 G 0)).2.err = 0 ∧ (step s (tell 1 G 0)).2.dir = false ∧ 1 < (step s (tell 1 F 0)).2.links ∧ (step (step s ⟨9, F, G, 0, 0, ⟨#[]⟩⟩).1 (tell 1 F 0)).2.err = 0) ∨ (step (step s ⟨9, F, G, 0, 0, ⟨#[]⟩⟩).1 (tell 1 F 0)).2.err = 2) := by
  have hstep : paths ⟨9, F, G, 0, 0, ⟨#[]⟩⟩ = 0 ∧ (rename s ⟨9, F, G, 0, 0, ⟨#[]⟩⟩).2 = 0 ∧ (step s ⟨9, F, G, 0, 0, ⟨#[]⟩⟩).1 = (rename s ⟨9, F, G, 0, 0, ⟨#[]⟩⟩).1 := by
    unfold step at hx ⊢
    by_cases p : paths ⟨9, F, G, 0, 0, ⟨#[]⟩⟩ ≠ 0
    · rw [if_pos p] at hx
      exact absurd hx p
    · rw [if_neg p] at hx
      have hn : numbers ⟨9, F, G, 0, 0, ⟨#[]⟩⟩ = 0 := rfl
      rw [if_neg (by rw [hn]; simp)] at hx
      rw [if_neg p, if_neg (by rw [hn]; simp)]
      exact ⟨Decidable.not_not.1 p, hx, rfl⟩
  obtain ⟨hp, hr, hs⟩ := hstep
  rw [hs]
  obtain ⟨l, h1, h2⟩ := paths_zero hp
  obtain ⟨_, m, h3, _⟩ := h2 rfl
  obtain ⟨i, q, q', t1, t2, t3, t4, t5, t6, t7⟩ := ren_law g u ⟨9, F, G, 0, 0, ⟨#[]⟩⟩ rfl hp hr
  have hF : Nm.split F = some l := h1
  have hG : Nm.split G = some m := h3
  have one : ∀ S : St, ∀ p (lp : List ByteArray), Nm.split p = some lp → (step S (tell 1 p 0)).2.err = (there S p).2 := fun S p lp hl => by
    unfold step
    rw [if_neg (by rw [tell_paths (Or.inl rfl) hl]; simp), if_neg (by rw [tell_numbers (Or.inl rfl) (by decide) (by decide)]; simp)]
    exact stat_err S (tell 1 p 0)
  refine ⟨fun k n hk h0 hn => ?_, ?_, ?_⟩
  · rw [tell_is hG t3 t4 hk h0 hn, tell_is hF t1 t2 hk h0 hn]
    exact told_same t5 k n
  · rw [one s F l hF, t1]
  · rcases t7 with e | ⟨e1, e2, e3, e4⟩ | e
    · exact Or.inl e
    · right; left
      have e1' : there s G = (q', 0) := e1
      rw [tell_is hG e1' t4 (Or.inl rfl) (by decide) (by decide), tell_is hF t1 t2 (Or.inl rfl) (by decide) (by decide)]
      exact ⟨rfl, e2, e3, by rw [one _ F l hF]; exact e4⟩
    · right; right
      rw [one _ F l hF]; exact e
end Md
end Go.Proofs.YtbmbjedpeepnfaaDoor
