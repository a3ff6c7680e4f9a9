/-
  The document's Refs in memory; Count, set. No condition but that the receiver is one that New made, or a later one.
-/
import Derived.Test.YtlecdappgpbnlaaRfG
import Derived.Test.YtlecdappgpbnlaaRfD
namespace Go.Proofs.Ytlecdappgpbnlaa
open Go.RowKit

/-- the cells of blocks and their counts -/
def pcs (f : Int → Int) (l : List Int) : List Value := l.flatMap fun k => [.int .i64 k, .int .i64 (f k)]

theorem pcs_length (f : Int → Int) : ∀ l : List Int, (pcs f l).length = l.length * 2
  | [] => rfl
  | k :: l => by have := pcs_length f l; simp only [pcs, List.flatMap_cons, List.length_append, List.length_cons, List.length_nil] at this ⊢; omega

theorem pcs_append (f : Int → Int) (l m : List Int) : pcs f (l ++ m) = pcs f l ++ pcs f m := by simp [pcs]

theorem pcs_get (f : Int → Int) : ∀ (l : List Int) (j : Nat) (k : Int), l[j]? = some k → (pcs f l)[j * 2]? = some (.int .i64 k) ∧ (pcs f l)[j * 2 + 1]? = some (.int .i64 (f k))
  | [], j, k, h => by simp at h
  | x :: l, 0, k, h => by
    simp at h; subst h
    simp [pcs]
  | x :: l, j + 1, k, h => by
    have := pcs_get f l j k (by simpa using h)
    have e : ∀ i, (pcs f (x :: l))[i + 2]? = (pcs f l)[i]? := fun i => by simp [pcs]
    rw [show (j + 1) * 2 = j * 2 + 2 by omega, show j * 2 + 2 + 1 = (j * 2 + 1) + 2 by omega, e, e]
    exact this

theorem pcs_congr {f g : Int → Int} : ∀ {l : List Int}, (∀ k ∈ l, f k = g k) → pcs f l = pcs g l
  | [], _ => rfl
  | x :: l, h => by
    have ih := pcs_congr (f := f) (g := g) (l := l) (fun k hk => h k (by simp [hk]))
    simp only [pcs, List.flatMap_cons] at ih ⊢
    rw [ih, h x (by simp)]

/-- what holds of the counts f of B blocks -/
structure RGood (f : Int → Int) (B : Int) : Prop where
  b0 : 2 ≤ B
  b1 : B ≤ 4294967296
  inn : ∀ k, f k ≠ 0 → 2 ≤ k ∧ k < B
  pos : ∀ k, 0 ≤ f k

theorem RGood.set {f : Int → Int} {B k v : Int} (h : RGood f B) (h2 : 2 ≤ k) (hB : k < B) (hv : 0 ≤ v) : RGood (Rf.upd f k v) B := by
  refine ⟨h.b0, h.b1, fun i hi => ?_, fun i => ?_⟩
  · by_cases e : i = k
    · omega
    · rw [Rf.upd_other e] at hi; exact h.inn i hi
  · by_cases e : i = k
    · subst e; rw [Rf.upd_same]; omega
    · rw [Rf.upd_other e]; exact h.pos i

/-- a slice of blocks and counts -/
def RowP (w : World) (v : Value) (f : Int → Int) (l : List Int) : Prop :=
  (l = [] ∧ v = .slice none 0 0) ∨ ∃ g c, v = .slice (some ⟨g, 0, none⟩) l.length c ∧ g < w.heap.size ∧ l.length ≤ c ∧ ∀ (j : Nat) k, l[j]? = some k → w.cell? ⟨g, j * 2, none⟩ = some (.int .i64 k) ∧ w.cell? ⟨g, j * 2 + 1, none⟩ = some (.int .i64 (f k))

theorem RowP.keep {w w' : World} {v : Value} {f : Int → Int} {l : List Int} {F : List Nat} (h : RowP w v f l) (k : Keep F w w') (hF : ∀ x ∈ rowOf v, x ∉ F) : RowP w' v f l := by
  rcases h with h | ⟨g, c, rfl, hg, hc, hx⟩
  · exact Or.inl h
  · have hgF : g ∉ F := hF g (by simp [rowOf, Value.ownBlock])
    refine Or.inr ⟨g, c, rfl, by have := k.size; omega, hc, fun j q hq => ?_⟩
    rw [k.cell (by exact hg) (by exact hgF), k.cell (by exact hg) (by exact hgF)]
    exact hx j q hq

theorem RowP.len {w : World} {v : Value} {f : Int → Int} {l : List Int} (h : RowP w v f l) : ∃ ao c, v = .slice ao l.length c := by
  rcases h with ⟨rfl, rfl⟩ | ⟨g, c, rfl, _⟩
  · exact ⟨none, 0, rfl⟩
  · exact ⟨_, c, rfl⟩

theorem RowP.lt {w : World} {v : Value} {f : Int → Int} {l : List Int} (h : RowP w v f l) : ∀ x ∈ rowOf v, x < w.heap.size := by
  rcases h with ⟨_, rfl⟩ | ⟨g, c, rfl, hg, _⟩
  · intro x hx; simp [rowOf, Value.ownBlock] at hx
  · intro x hx
    simp [rowOf, Value.ownBlock] at hx
    rw [hx]; exact hg

theorem RowP.ofOwn {w : World} {v : Value} {n : Nat} {f : Int → Int} {l : List Int} (h : w.ownsRow 0 67 2 v n (pcs f l)) : RowP w v f l ∧ n = l.length := by
  have hl : l.length = n := by have := h.1; rw [pcs_length] at this; omega
  have h0 := h
  rcases h.2 with ⟨e, hx⟩ | ⟨g, cap, cur, e, _, hg, hc, _⟩
  · subst e
    refine ⟨Or.inl ⟨?_, rfl⟩, hl.symm⟩
    exact List.eq_nil_of_length_eq_zero (by omega)
  · subst e
    refine ⟨Or.inr ⟨g, cap, by rw [hl], (Array.getElem?_eq_some_iff.1 hg).1, by omega, fun j k hk => ?_⟩, hl.symm⟩
    obtain ⟨h1, h2⟩ := pcs_get f l j k hk
    have c1 := h0.cells (g := g) rfl (j * 2) _ h1
    have c2 := h0.cells (g := g) rfl (j * 2 + 1) _ h2
    rw [Addr.add_lit] at c1 c2
    simp only [Nat.zero_add] at c1 c2
    exact ⟨c1, c2⟩

/-- at block p lies the document's Refs of B blocks whose counts are f; its list is v -/
structure IsRR (w : World) (p : Nat) (v : Value) (f : Int → Int) (B : Int) : Prop where
  blk : Blk w p [.int .i64 B, v] 63
  row : RowP w v f (Rf.used f B.toNat)
  ne : p ∉ rowOf v
  good : RGood f B

theorem IsRR.keep {F : List Nat} {w w' : World} {p : Nat} {v : Value} {f : Int → Int} {B : Int} (h : IsRR w p v f B) (k : Keep F w w') (h1 : p ∉ F) (h2 : ∀ x ∈ rowOf v, x ∉ F) : IsRR w' p v f B :=
  ⟨h.blk.keep k h1, h.row.keep k h2, h.ne, h.good⟩

theorem IsRR.cells {w : World} {p : Nat} {v : Value} {f : Int → Int} {B : Int} (h : IsRR w p v f B) : w.cell? ⟨p, 0, none⟩ = some (.int .i64 B) ∧ w.cell? ⟨p, 1, none⟩ = some v ∧ w.frozen? ⟨p, 1, none⟩ = false :=
  ⟨h.blk.cell 0, h.blk.cell 1, h.blk.free 1⟩

theorem used_le {f : Int → Int} {B : Int} (h : B ≤ 4294967296) : (Rf.used f B.toNat).length ≤ 4294967296 := by
  rw [Rf.used_length]; have := Rf.cntN_le f B.toNat; omega

set_option maxRecDepth 100000 in
set_option maxHeartbeats 1600000 in
/-- Count -/
theorem qcount_any (p : Nat) (v : Value) (f : Int → Int) (B n : Int) (w : World) (h : IsRR w p v f B) :
    Calls Try.prog 39 #[.pointer (some ⟨p, 0, none⟩), .int .i64 n] w fun e w' => e = .returned (.int .i64 (f n)) ∧ w = w' := by
  obtain ⟨c0, c1, _⟩ := h.cells
  obtain ⟨ao, cc, rfl⟩ := h.row.len
  obtain ⟨L, hL⟩ : ∃ L, L = Rf.used f B.toNat := ⟨_, rfl⟩
  have hrow := h.row
  have hle := used_le (f := f) h.good.b1
  have hout : (∀ k ∈ L, k ≠ n) → f n = 0 := fun hn => by
    by_cases e : f n = 0
    · exact e
    · have := h.good.inn n e
      exact absurd rfl (hn n (by rw [hL]; exact Rf.mem_used.2 ⟨by omega, by omega, e⟩))
  rw [← hL] at c1 hrow hle
  have HO := Lib.hid hout
  clear hout hL h
  go_enter Try.func39, Try.ntmps39
  go_wp2_with fail
  go_loopw [5] (fun i wr => ∃ k : Nat, i = .int .i64 k ∧ k ≤ L.length ∧ Hid (∀ (j : Nat) x, j < k → L[j]? = some x → x ≠ n) ∧ wr = w) (fun i _ => L.length - (intOf i).toNat)
  case atStart => exact ⟨0, rfl, Nat.zero_le _, Lib.hid (fun j x h => absurd h (by omega)), rfl⟩
  case round =>
    obtain ⟨k, rfl, hk, hI, rfl⟩ := hrel
    by_cases hlt : k < L.length
    · obtain ⟨x, hxk⟩ : ∃ x, L[k]? = some x := ⟨_, List.getElem?_eq_getElem hlt⟩
      rcases hrow with ⟨h0, _⟩ | ⟨g, c, he, hg, hc, hx⟩
      · rw [h0] at hlt; simp at hlt
      cases he
      obtain ⟨q0, q1⟩ := hx k x hxk
      have HXK := Lib.hid hxk
      clear hx hxk
      by_cases hxn : x = n
      · subst hxn
        go_wp2
        go_ret
        exact ⟨rfl, by first | rfl | trivial⟩
      · have hxb : (x == n) = false := by rw [beq_eq_false_iff_ne]; exact hxn
        have HXN := Lib.hid hxn
        clear hxn
        go_wp2
        go_roundw
        case rel =>
          refine ⟨k + 1, by go_num, by omega, Lib.hid (fun j y hj hy => ?_), by first | rfl | trivial⟩
          by_cases hjk : j < k
          · exact hI.out j y hjk hy
          · obtain rfl : j = k := by omega
            rw [HXK.out] at hy
            rw [← Option.some.inj hy]; exact HXN.out
        case measure => simp [intOf]; omega
    · have hf0 : f n = 0 := HO.out (fun y hy => by
        obtain ⟨j, hj⟩ := List.mem_iff_getElem?.1 hy
        exact hI.out j y (by have := (List.getElem?_eq_some_iff.1 hj).1; omega) hj)
      have HF := Lib.hid hf0
      clear hf0 hI
      go_wp2
      go_ret
      exact ⟨by rw [HF.out]; rfl, by first | rfl | trivial⟩

theorem info67 : (Try.prog.info? 67).map (fun i => (i.zero, i.size, i.bytes)) = some (some (.agg #[.int .i64 0, .int .i64 0]), 2, 16) := by kernel_rfl

theorem slice_ownR {w : World} {base : Nat} {e : TypeId} {size : Nat} {v : Value} {n : Nat} {xs : List Value} (h : w.ownsRow base e size v n xs) : ∃ ao c, v = .slice ao n c := by
  obtain ⟨_, ao, c, e, _⟩ := RdV.ofOwn h
  exact ⟨ao, c, e⟩

/-- a block and its count, appended -/
theorem push_pair (W : World) (hao : Option Addr) (hcap m : Nat) (xs : List Value) (a b : Int) (own : W.ownsRow 0 67 2 (.slice hao m hcap) m xs) (hm : m ≤ 8000000000) :
    ∃ v' w', (Builtin.append_ #[61, 61] 61 #[.slice hao m hcap, .slice (some ⟨W.heap.size, 0, none⟩) 1 1]).run Try.prog (W.alloc (.cells #[.int .i64 a, .int .i64 b] 67)) = .ok v' w' ∧
      AppOut 67 2 (W.alloc (.cells #[.int .i64 a, .int .i64 b] 67)) (.slice hao m hcap) (m + 1) (xs ++ [.int .i64 a, .int .i64 b]) v' w' := by
  obtain ⟨i0, hi, hz0, hz1, hz2⟩ := info_parts info67
  exact run_app_slice (P := Try.prog) (W.alloc (.cells #[.int .i64 a, .int .i64 b] 67)) 61 61 67 i0 _ 2 16 Try.underlying61 hi hz0 hz1 hz2 rfl (by decide) _ m _ (own.alloc (.cells #[.int .i64 a, .int .i64 b] 67)) (some ⟨W.heap.size, 0, none⟩) 1 1 [.int .i64 a, .int .i64 b] rfl (fun h => by cases h)
    (by intro q hq; cases hq; exact World.news_of_block (heap_alloc_new _ _)) (fun u hu => by simp at hu; rcases hu with rfl | rfl <;> rfl) (by unfold maxLen; omega) (by omega)

theorem push_after {W : World} {hao : Option Addr} {hcap m : Nat} {xs : List Value} {cs : Array Value} {v' : Value} {w' : World} (h : AppOut 67 2 (W.alloc (.cells cs 67)) (.slice hao m hcap) (m + 1) xs v' w') :
    ∃ ao8 cp8, v' = .slice ao8 (m + 1) cp8 ∧ w'.ownsRow 0 67 2 (.slice ao8 (m + 1) cp8) (m + 1) xs ∧ Keep (rowOf (.slice hao m hcap)) W w' ∧ ∀ x ∈ rowOf (.slice ao8 (m + 1) cp8), x ∈ rowOf (.slice hao m hcap) ∨ W.heap.size ≤ x := by
  obtain ⟨ao8, cp8, rfl⟩ := h.slice
  have h3 : (W.alloc (.cells cs 67)).heap.size = W.heap.size + 1 := World.size_alloc _ _
  refine ⟨ao8, cp8, rfl, h.1, (((Keep.refl [] W).alloc (.cells cs 67)).mono (by simp)).grown h.2.1 (fun x hx => Or.inl (mem_rowOf.2 hx)), fun x hx => ?_⟩
  rcases h.2.2 x hx with h1 | h1
  · exact Or.inl h1
  · exact Or.inr (by omega)

set_option maxRecDepth 100000 in
set_option maxHeartbeats 3200000 in
/-- set -/
theorem qset_any (p : Nat) (v : Value) (f : Int → Int) (B n c : Int) (w : World) (h : IsRR w p v f B) (h2 : 2 ≤ n) (hB : n < B) (hc0 : 0 ≤ c) :
    Calls Try.prog 45 #[.pointer (some ⟨p, 0, none⟩), .int .i64 n, .int .i64 c] w fun e w' => e = .returned (.tuple #[]) ∧ (∃ v', IsRR w' p v' (Rf.upd f n c) B ∧ ∀ x ∈ rowOf v', w.heap.size ≤ x) ∧ Keep [p] w w' := by
  obtain ⟨i0, hi, hz0, hz1, hz2⟩ := info_parts info67
  have c0 := h.cells.1
  have c1 := h.cells.2.1
  have cf := h.cells.2.2
  have hpw := h.blk.lt
  obtain ⟨ao, cc, rfl⟩ := h.row.len
  obtain ⟨L, hL⟩ : ∃ L, L = Rf.used f B.toNat := ⟨_, rfl⟩
  obtain ⟨T, hT⟩ : ∃ T, T = Rf.ins n L (c == 0) := ⟨_, rfl⟩
  have hTe : T = Rf.used (Rf.upd f n c) B.toNat := by
    rw [hT, hL]; exact Rf.ins_used f n c B.toNat (by omega) (by have := h.good.b0; omega)
  have hrow := h.row
  have hle := used_le (f := f) h.good.b1
  have hTl : T.length ≤ 4294967296 := by rw [hTe]; exact used_le h.good.b1
  rw [← hL] at c1 hrow hle
  have HG := Lib.hid (h.good.set h2 hB hc0)
  have HB := Lib.hid h.blk
  have HT := Lib.hid hT
  have HTE := Lib.hid hTe
  clear hL hT hTe h
  go_enter Try.func45, Try.ntmps45
  go_wp2_with fail
  go_loopw [6, 7, 8] (fun hs dn i wr => ∃ (k : Nat) (O : List Int) (D : Bool), i = .int .i64 k ∧ dn = .bool D ∧ k ≤ L.length ∧ Hid (O ++ Rf.ins n (L.drop k) D = T) ∧ wr.ownsRow 0 67 2 hs O.length (pcs (Rf.upd f n c) O) ∧ Hid (∀ x ∈ rowOf hs, w.heap.size ≤ x) ∧ Keep [] w wr) (fun _ _ i _ => L.length - (intOf i).toNat)
  case atStart =>
    refine ⟨0, [], c == 0, rfl, ?_, Nat.zero_le _, Lib.hid (by rw [HT.out]; rfl), ownsRow_made0 w 67 2, Lib.hid (by simp [rowOf, Value.ownBlock]), (Keep.refl _ _).alloc _⟩
    first | rfl | simp
  case round =>
    obtain ⟨k, O, D, rfl, rfl, hk, hI, hown, hrows, K⟩ := hrel
    obtain ⟨hao, hcap, rfl⟩ := slice_ownR hown
    have hOl : O.length ≤ 4294967296 := by
      have := congrArg List.length hI.out
      rw [List.length_append] at this; omega
    have c1r : wr.cell? ⟨p, 1, none⟩ = some (.slice ao L.length cc) := by rw [K.cell (by exact hpw) (by simp)]; exact c1
    have hfr : ∀ x ∈ rowOf (.slice hao O.length hcap), w.heap.size ≤ x := hrows.out
    have HF := Lib.hid hfr
    clear hfr
    by_cases hlt : k < L.length
    · obtain ⟨x, hxk⟩ : ∃ x, L[k]? = some x := ⟨_, List.getElem?_eq_getElem hlt⟩
      rcases hrow with ⟨h0, _⟩ | ⟨g, cg, he, hg, hc, hx⟩
      · rw [h0] at hlt; simp at hlt
      cases he
      have hcell : ∀ W, Keep [] wr W ∨ Keep (rowOf (.slice hao O.length hcap)) wr W → W.cell? ⟨p, 1, none⟩ = some (.slice (some ⟨g, 0, none⟩) L.length cc) ∧ W.cell? ⟨g, k * 2, none⟩ = some (.int .i64 x) ∧ W.cell? ⟨g, k * 2 + 1, none⟩ = some (.int .i64 (f x)) := fun W hW => by
        have hW' : Keep (rowOf (.slice hao O.length hcap)) wr W := by
          rcases hW with h | h
          · exact h.mono (by simp)
          · exact h
        have hs := K.size
        have hn : ∀ y, y < w.heap.size → y ∉ rowOf (.slice hao O.length hcap) := fun y hy hm => by have := HF.out y hm; omega
        rw [hW'.cell (show p < wr.heap.size by omega) (hn p hpw), hW'.cell (show g < wr.heap.size by omega) (hn g hg), hW'.cell (show g < wr.heap.size by omega) (hn g hg)]
        rw [K.cell (by exact hpw) (by simp), K.cell (by exact hg) (by simp), K.cell (by exact hg) (by simp)]
        exact ⟨c1, hx k x hxk⟩
      obtain ⟨_, q0, q1⟩ := hcell wr (Or.inl (Keep.refl _ _))
      have HC := Lib.hid hcell
      have hdrop : L.drop k = x :: L.drop (k + 1) := by
        rw [List.drop_eq_getElem_cons hlt]
        congr 1
        exact (List.getElem?_eq_some_iff.1 hxk).2
      have hstep : O ++ ((if !D && decide (n ≤ x) then [n] else []) ++ (if x = n then [] else [x]) ++ Rf.ins n (L.drop (k + 1)) (D || decide (n ≤ x))) = T := by rw [← hI.out, hdrop]; rfl
      have HI := Lib.hid hI.out
      have hpn : pcs (Rf.upd f n c) [n] = [.int .i64 n, .int .i64 c] := by simp [pcs, Rf.upd]
      have hpx : x ≠ n → pcs (Rf.upd f n c) [x] = [.int .i64 x, .int .i64 (f x)] := fun h => by simp [pcs, Rf.upd, h]
      have HPN := Lib.hid hpn
      have HPX := Lib.hid hpx
      clear hcell hx hxk hdrop hI hpn hpx
      cases D with
      | false =>
        by_cases hnx : n ≤ x
        · simp only [hnx, Bool.not_false, decide_true, Bool.and_self, if_true, Bool.or_true] at hstep
          have FA := Lib.hid (push_pair wr hao hcap O.length (pcs (Rf.upd f n c) O) n c hown (by omega))
          by_cases hxn : x = n
          · have hxb : (x != n) = false := by simp [hxn]
            rw [if_pos hxn] at hstep
            have HST := Lib.hid hstep
            clear hstep hxn
            go_wp2_with (at_builtin; refine wpList_app rfl (.tmp 35) (.tmp 39) 61 61 rfl _ _ rfl rfl FA.out ?_; intro hv w8 hO; obtain ⟨ao8, cp8, rfl, o8, k8, r8⟩ := push_after hO; obtain ⟨d0, d1, d2⟩ := HC.out w8 (Or.inr k8))
            go_roundw
            case rel =>
              refine ⟨k + 1, O ++ [n], true, by go_num, rfl, by omega, Lib.hid (by rw [← HST.out]; simp), ?_, Lib.hid (fun y hy => by rcases r8 y hy with h | h; exact HF.out y h; have := K.size; omega), K.trans k8 (fun y hy => Or.inr (HF.out y hy))⟩
              rw [List.length_append, pcs_append, HPN.out]; exact o8
            case measure => simp [intOf]; omega
          · have hxb : (x == n) = false := by rw [beq_eq_false_iff_ne]; exact hxn
            have hpx := HPX.out hxn
            rw [if_neg hxn] at hstep
            have HST := Lib.hid hstep
            have HPX2 := Lib.hid hpx
            clear hstep hxn hpx
            go_wp2_with (first | (at_builtin; refine wpList_app rfl (.tmp 35) (.tmp 39) 61 61 rfl _ _ rfl rfl FA.out ?_; intro hv w8 hO; obtain ⟨ao8, cp8, rfl, o8, k8, r8⟩ := push_after hO; obtain ⟨d0, d1, d2⟩ := HC.out w8 (Or.inr k8)) | (at_builtin; have FB := push_pair w8 ao8 cp8 (O.length + 1) _ x (f x) o8 (by omega); refine wpList_app rfl (.tmp 51) (.tmp 59) 61 61 rfl _ _ rfl rfl FB ?_; intro hv9 w9 hO9; clear FB; obtain ⟨ao9, cp9, rfl, o9, k9, r9⟩ := push_after hO9))
            have HF8 : ∀ y ∈ rowOf (.slice ao8 (O.length + 1) cp8), w.heap.size ≤ y := fun y hy => by
              rcases r8 y hy with h | h
              · exact HF.out y h
              · have := K.size; omega
            have K8 : Keep [] w w8 := K.trans k8 (fun y hy => Or.inr (HF.out y hy))
            go_roundw
            case rel =>
              refine ⟨k + 1, (O ++ [n]) ++ [x], true, by go_num, rfl, by omega, Lib.hid (by rw [← HST.out]; simp), ?_, Lib.hid (fun y hy => by rcases r9 y hy with h | h; exact HF8 y h; have := K8.size; omega), K8.trans k9 (fun y hy => Or.inr (HF8 y hy))⟩
              rw [List.length_append, List.length_append, pcs_append, pcs_append, HPN.out, HPX2.out]; exact o9
            case measure => simp [intOf]; omega
        · simp only [hnx, Bool.not_false, decide_false, Bool.and_false, Bool.or_false, Bool.false_eq_true, if_false] at hstep
          have hxn : ¬ x = n := by omega
          have hxb : (x == n) = false := by rw [beq_eq_false_iff_ne]; exact hxn
          have hpx := HPX.out hxn
          rw [if_neg hxn] at hstep
          have HST := Lib.hid hstep
          have HPX2 := Lib.hid hpx
          have FA := Lib.hid (push_pair wr hao hcap O.length (pcs (Rf.upd f n c) O) x (f x) hown (by omega))
          clear hstep hxn hpx
          go_wp2_with (at_builtin; refine wpList_app rfl (.tmp 51) (.tmp 59) 61 61 rfl _ _ rfl rfl FA.out ?_; intro hv w8 hO; obtain ⟨ao8, cp8, rfl, o8, k8, r8⟩ := push_after hO)
          go_roundw
          case rel =>
            refine ⟨k + 1, O ++ [x], false, by go_num, rfl, by omega, Lib.hid (by rw [← HST.out]; simp), ?_, Lib.hid (fun y hy => by rcases r8 y hy with h | h; exact HF.out y h; have := K.size; omega), K.trans k8 (fun y hy => Or.inr (HF.out y hy))⟩
            rw [List.length_append, pcs_append, HPX2.out]; exact o8
          case measure => simp [intOf]; omega
      | true =>
        simp only [Bool.not_true, Bool.false_and, Bool.true_or, Bool.false_eq_true, if_false] at hstep
        by_cases hxn : x = n
        · have hxb : (x != n) = false := by simp [hxn]
          rw [if_pos hxn] at hstep
          have HST := Lib.hid hstep
          clear hstep hxn
          go_wp2
          go_roundw
          case rel =>
            refine ⟨k + 1, O, true, by go_num, rfl, by omega, Lib.hid (by rw [← HST.out]; simp), ?_, Lib.hid (HF.out), K⟩
            exact hown
          case measure => simp [intOf]; omega
        · have hxb : (x == n) = false := by rw [beq_eq_false_iff_ne]; exact hxn
          have hpx := HPX.out hxn
          rw [if_neg hxn] at hstep
          have HST := Lib.hid hstep
          have HPX2 := Lib.hid hpx
          have FA := Lib.hid (push_pair wr hao hcap O.length (pcs (Rf.upd f n c) O) x (f x) hown (by omega))
          clear hstep hxn hpx
          go_wp2_with (at_builtin; refine wpList_app rfl (.tmp 51) (.tmp 59) 61 61 rfl _ _ rfl rfl FA.out ?_; intro hv w8 hO; obtain ⟨ao8, cp8, rfl, o8, k8, r8⟩ := push_after hO)
          go_roundw
          case rel =>
            refine ⟨k + 1, O ++ [x], true, by go_num, rfl, by omega, Lib.hid (by rw [← HST.out]; simp), ?_, Lib.hid (fun y hy => by rcases r8 y hy with h | h; exact HF.out y h; have := K.size; omega), K.trans k8 (fun y hy => Or.inr (HF.out y hy))⟩
            rw [List.length_append, pcs_append, HPX2.out]; exact o8
          case measure => simp [intOf]; omega
    · have cfr : wr.frozen? ⟨p, 1, none⟩ = false := by rw [K.frozen (by exact hpw) (by simp)]; exact cf
      cases D with
      | true =>
        have hst : O = T := by rw [← hI.out, List.drop_eq_nil_of_le (by omega)]; simp [Rf.ins]
        have HST := Lib.hid hst
        clear hst hI
        go_wp2
        go_end0
        obtain ⟨hrp, hln⟩ := RowP.ofOwn hown
        have hOT : O = Rf.used (Rf.upd f n c) B.toNat := by rw [← HTE.out]; exact HST.out
        have hpn : p ∉ rowOf (.slice hao O.length hcap) := fun hm => by have := (HF.out) p hm; omega
        have kS : Keep [p] wr (wr.setCell ⟨p, 1, none⟩ (.slice hao O.length hcap)) := (Keep.refl _ _).setCell (Or.inl (by simp)) _
        have hK := K
        refine ⟨rfl, ⟨(.slice hao O.length hcap), ⟨(HB.out.keep hK (by simp)).set 1 _, ?_, hpn, HG.out⟩, HF.out⟩, ?_⟩
        · rw [← hOT]
          exact hrp.keep kS (fun y hy hy' => by simp at hy'; subst hy'; exact hpn hy)
        · exact (hK.mono (by simp)).trans kS (by simp)
      | false =>
        have hst : O ++ [n] = T := by rw [← hI.out, List.drop_eq_nil_of_le (by omega)]; simp [Rf.ins]
        have HST := Lib.hid hst
        have hpn0 : pcs (Rf.upd f n c) [n] = [.int .i64 n, .int .i64 c] := by simp [pcs, Rf.upd]
        have HPN := Lib.hid hpn0
        have hfz : ∀ W, Keep (rowOf (.slice hao O.length hcap)) wr W → W.frozen? ⟨p, 1, none⟩ = false ∧ W.cell? ⟨p, 1, none⟩ = some (.slice ao L.length cc) := fun W hW => by
          have hs := K.size
          have hn : p ∉ rowOf (.slice hao O.length hcap) := fun hm => by have := HF.out p hm; omega
          rw [hW.cell (show p < wr.heap.size by omega) hn, hW.frozen (show p < wr.heap.size by omega) hn, K.frozen (by exact hpw) (by simp)]
          exact ⟨cf, c1r⟩
        have HFZ := Lib.hid hfz
        have FA := Lib.hid (push_pair wr hao hcap O.length (pcs (Rf.upd f n c) O) n c hown (by omega))
        clear hst hI hpn0 hfz
        go_wp2_with (at_builtin; refine wpList_app rfl (.tmp 63) (.tmp 67) 61 61 rfl _ _ rfl rfl FA.out ?_; intro hv w8 hO; obtain ⟨ao8, cp8, rfl, o8, k8, r8⟩ := push_after hO; obtain ⟨z0, z1⟩ := HFZ.out w8 k8)
        have HF8 : ∀ y ∈ rowOf (.slice ao8 (O.length + 1) cp8), w.heap.size ≤ y := fun y hy => by
          rcases r8 y hy with h | h
          · exact HF.out y h
          · have := K.size; omega
        have K8 : Keep [] w w8 := K.trans k8 (fun y hy => Or.inr (HF.out y hy))
        have o8' : w8.ownsRow 0 67 2 (.slice ao8 (O.length + 1) cp8) (O.length + 1) (pcs (Rf.upd f n c) (O ++ [n])) := by rw [pcs_append, HPN.out]; exact o8
        go_end0
        obtain ⟨hrp, hln⟩ := RowP.ofOwn o8'
        have hOT : O ++ [n] = Rf.used (Rf.upd f n c) B.toNat := by rw [← HTE.out]; exact HST.out
        have hpn : p ∉ rowOf (.slice ao8 (O.length + 1) cp8) := fun hm => by have := (HF8) p hm; omega
        have kS : Keep [p] w8 (w8.setCell ⟨p, 1, none⟩ (.slice ao8 (O.length + 1) cp8)) := (Keep.refl _ _).setCell (Or.inl (by simp)) _
        have hK := K8
        refine ⟨rfl, ⟨(.slice ao8 (O.length + 1) cp8), ⟨(HB.out.keep hK (by simp)).set 1 _, ?_, hpn, HG.out⟩, HF8⟩, ?_⟩
        · rw [← hOT]
          exact hrp.keep kS (fun y hy hy' => by simp at hy'; subst hy'; exact hpn hy)
        · exact (hK.mono (by simp)).trans kS (by simp)
end Go.Proofs.Ytlecdappgpbnlaa
