/-
  SuperNames: names may be just as the chapter says: the law returns true, for any names. No condition.
-/
import Derived.Test.YteogkgjajhdhjaaSuperM
import Derived.Test.YteogkgjajhdhjaaSuperI
import Derived.SliceStrings
namespace Go.Proofs.Yteogkgjajhdhjaa
open Go.RowKit Go.ChangeShapes Go.WideShapes

/-- a row of texts that is read: the cells at a place hold them -/
def StrsN (w : World) (ao : Option Addr) (l : List ByteArray) : Prop := l = [] ∨ ∃ b o, ao = some ⟨b, o, none⟩ ∧ b < w.heap.size ∧ ∀ (j : Nat) x, l[j]? = some x → w.cell? ⟨b, o + j, none⟩ = some (.string x)

/-- a list of texts among the arguments -/
theorem open_texts {H : Type} {enc : TypeId × Value → H} {P : Program} {t e : TypeId} (ht : P.underlying t = some (.slice e)) (he : P.underlying e = some .string) (hc : P.cellsOf e = 1) {W : World} {base : Nat} {v : Value} {d : DataW H} {p : List MemPlace}
    (hval : Value.okWide P W .any base t v) (h : DataW.Trod enc P W 0 (fun _ => true) true t v d p) :
    ∃ (ao : Option Addr) (l : List ByteArray) (c : Nat), v = .slice ao l.length c ∧ l.length ≤ c ∧ c ≤ 9223372036854775807 ∧ StrsN W ao l ∧ ∀ x ∈ l, x.size ≤ 9223372036854775807 := by
  obtain ⟨a0, len, cap, rfl⟩ := okWide_slice ht hval
  obtain ⟨fuel, hf⟩ := h
  rcases open_strings ht he hc hf with ⟨hcs, hx⟩ | ⟨a, len', cap', ss, hcs, _, hl, hm, hz, hx, hcell, hsz⟩
  · simp [Value.cells] at hcs
    obtain ⟨rfl, rfl, rfl⟩ := hcs
    exact ⟨none, [], 0, rfl, Nat.le_refl _, by omega, Or.inl rfl, fun x hx => by cases hx⟩
  · simp [Value.cells] at hcs
    obtain ⟨rfl, rfl, rfl⟩ := hcs
    simp only [if_true] at hz
    unfold maxLen at hm
    have hlen : (ss.take len).length = len := by rw [List.length_take]; omega
    refine ⟨some a, ss.take len, cap, by rw [hlen], by rw [hlen]; exact hl, by omega, ?_, fun x hx => by have := hsz x (List.mem_of_mem_take hx); unfold maxLen at this; omega⟩
    by_cases h0 : ss.take len = []
    · exact Or.inl h0
    · have hpos : 0 < len := by
        rcases Nat.eq_zero_or_pos len with h | h
        · exact absurd (by rw [h]; rfl) h0
        · exact h
      have c0 := hcell 0 (by omega)
      have hsp := World.cell?_spot c0
      have hb := World.block_lt_of_cell? W _ c0
      rw [show a.add 0 = a from rfl] at hsp hb
      refine Or.inr ⟨a.block, a.off, by cases a; simp at hsp; rw [hsp], hb, fun j x hj => ?_⟩
      rw [List.getElem?_take] at hj
      split at hj
      · have hjl := (List.getElem?_eq_some_iff.1 hj).1
        have := hcell j hjl
        have e1 : a.add j = ⟨a.block, a.off + j, none⟩ := by
          unfold Addr.add
          split
          · rename_i hj0; subst hj0; cases a; simp at hsp; rw [hsp]; rfl
          · rfl
        rw [e1, List.getD, hj] at this
        exact this
      · cases hj

/-- the law's superblock while its loop runs: at b8, its snapshots so far in a row of its own; w7 is the world at the loop's begin -/
structure NAt (w7 wr : World) (b8 : Nat) (vs : Value) (sofar : List Sp.Sn) : Prop where
  keep : Keep [b8] w7 wr
  blk : Blk wr b8 [.int .i64 7, .int .i64 9, .int .i64 5, .int .i64 3, vs] 59
  blt : b8 < w7.heap.size
  own : wr.ownsRow 0 81 3 vs sofar.length (Sp.scells sofar)
  row : ∀ x ∈ rowOf vs, w7.heap.size ≤ x

theorem NAt.moved {w7 wr w' : World} {b8 : Nat} {vs : Value} {sofar : List Sp.Sn} (h : NAt w7 wr b8 vs sofar) (k : Keep [] wr w') : NAt w7 w' b8 vs sofar :=
  ⟨h.keep.trans k (by simp), h.blk.keep k (by simp), h.blt, ownsRow_keep h.own k (by simp), h.row⟩

theorem NAt.cell {w7 wr : World} {b8 : Nat} {vs : Value} {sofar : List Sp.Sn} (h : NAt w7 wr b8 vs sofar) : wr.cell? ⟨b8, 4, none⟩ = some vs := h.blk.cell 4

/-- a snapshot more -/
theorem NAt.push {w7 wr w' : World} {b8 : Nat} {vs vs' : Value} {sofar : List Sp.Sn} (h : NAt w7 wr b8 vs sofar) {x : Sp.Sn} {n : Nat} (hn : n = sofar.length + 1) (o : AppOut 81 3 wr vs n (Sp.scells sofar ++ x.cells) vs' w') :
    NAt w7 (w'.setCell ⟨b8, 4, none⟩ vs') b8 vs' (sofar ++ [x]) := by
  obtain ⟨o1, o2, o3⟩ := o
  have hb8 := h.blt
  have hkg : Keep (rowOf vs) wr w' := (Keep.refl _ _).grown o2 (fun k hk => Or.inl (mem_rowOf.2 hk))
  have hrow' : ∀ k ∈ rowOf vs', w7.heap.size ≤ k := fun k hk => (o3 k hk).elim (h.row k) (fun e => Nat.le_trans h.keep.size e)
  have hk2 : Keep (b8 :: rowOf vs) wr (w'.setCell ⟨b8, 4, none⟩ vs') := (hkg.mono (by intro x hx; simp [hx])).setCell (Or.inl (by simp)) _
  have B' := h.blk.keep hkg (fun hx => by have := h.row _ hx; omega)
  have hs : Sp.scells (sofar ++ [x]) = Sp.scells sofar ++ x.cells := by simp [Sp.scells]
  subst hn
  refine ⟨(h.keep.trans hk2 ?_), B'.set 4 vs', h.blt, ?_, hrow'⟩
  · intro x hx
    rcases List.mem_cons.1 hx with rfl | hx
    · exact Or.inl (by simp)
    · exact Or.inr (h.row x hx)
  · rw [hs, List.length_append]
    exact ownsRow_keep o1 ((Keep.refl [b8] _).setCell (Or.inl (by simp)) _) (fun x hx hx' => by simp at hx'; subst hx'; have := hrow' _ hx; omega)

theorem NAt.mid {w7 wr w' : World} {b8 : Nat} {vs vs' : Value} {sofar : List Sp.Sn} (h : NAt w7 wr b8 vs sofar) {zs : List Value} {n : Nat} (o : AppOut 81 3 wr vs n zs vs' w') :
    w'.cell? ⟨b8, 4, none⟩ = some vs ∧ w'.frozen? ⟨b8, 4, none⟩ = false := by
  have hb8 := h.blt
  have hkg : Keep (rowOf vs) wr w' := (Keep.refl _ _).grown o.2.1 (fun k hk => Or.inl (mem_rowOf.2 hk))
  have B' := h.blk.keep hkg (fun hx => by have := h.row _ hx; omega)
  exact ⟨B'.cell 4, B'.free 4⟩

theorem NAt.suv {w7 wr : World} {b8 : Nat} {ao : Option Addr} {c : Nat} {s : Sp.Su} (h : NAt w7 wr b8 (.slice ao s.snaps.length c) s.snaps) (hs : s = ⟨7, 9, 5, 3, s.snaps⟩) (hl : s.snaps.length ≤ 9223372036854775807) :
    SuV wr (.agg #[.int .i64 7, .int .i64 9, .int .i64 5, .int .i64 3, .slice ao s.snaps.length c]) s := by
  refine ⟨ao, c, ?_, RdV.ofOwn h.own, hl⟩
  rw [hs]

set_option maxRecDepth 100000 in
set_option maxHeartbeats 40000000 in
theorem superNames_walk (ao : Option Addr) (names : List ByteArray) (cap : Nat) (w : World) (_hc : names.length ≤ cap) (_hcm : cap ≤ 9223372036854775807) (hst : StrsN w ao names) (hsz : ∀ x ∈ names, x.size ≤ 9223372036854775807) :
    Calls Try.prog 15 #[.slice ao names.length cap] w fun e w' => e = .returned (.bool true) ∧ Keep [] w w' := by
  obtain ⟨i0, hi, hz0, hz1, hz2⟩ := info_parts Try.info81
  have HST := Lib.hid hst
  have HSZ := Lib.hid hsz
  obtain ⟨le8, hle8⟩ : ∃ b, b = decide (names.length ≤ 8) := ⟨_, rfl⟩
  have hle8I : decide ((names.length : Int) ≤ 8) = le8 := by rw [hle8]; congr 1; apply propext; omega
  have HLE := Lib.hid hle8
  clear hst hsz hle8
  go_enter Try.func15, Try.ntmps15
  go_wp2_with fail
  refine (shown4_any _).mono ?_
  rintro e w1 ⟨rfl, k1⟩
  obtain ⟨w7, hw7⟩ : ∃ w7, w7 = w1.alloc (.cells #[.int .i64 7, .int .i64 9, .int .i64 5, .int .i64 3, .slice none 0 0] 59) := ⟨_, rfl⟩
  have K7 : Keep [] w w7 := by rw [hw7]; exact k1.alloc _
  obtain ⟨b8, hb8⟩ : ∃ b, b = w1.heap.size := ⟨_, rfl⟩
  have B7 : Blk w7 b8 [.int .i64 7, .int .i64 9, .int .i64 5, .int .i64 3, .slice none 0 0] 59 := by rw [hw7, hb8]; exact Blk.new' w1 _ _
  have A7 : NAt w7 w7 b8 (.slice none 0 0) [] := ⟨Keep.refl _ _, B7, B7.lt, World.ownsRow_nil _ _ _ _, by simp [rowOf, Value.ownBlock]⟩
  have hwb : w.heap.size ≤ b8 := by rw [hb8]; exact k1.size
  have HA7 := Lib.hid A7
  have HW7 := Lib.hid hw7
  have HB8 := Lib.hid hb8
  clear hw7 hb8 B7 A7 k1
  go_upto_block 0 with fail
  rw [← HB8.out, ← HW7.out]
  obtain ⟨m, hm⟩ : ∃ m, m = min names.length 10 := ⟨_, rfl⟩
  obtain ⟨q, hq⟩ : ∃ q, q = Sp.right ⟨7, 9, 5, 3, Sp.snapsOf names m⟩ := ⟨_, rfl⟩
  have hmk : ∀ k, (k ≤ names.length ∧ k ≤ 10 ∧ ¬ (k < names.length ∧ k < 10)) → k = m := fun k h => by omega
  have hqD : q = (le8 && Sp.okN names m) := by
    rw [hq, Sp.right_snaps, HLE.out]
    by_cases h8 : names.length ≤ 8
    · rw [decide_eq_true h8, decide_eq_true (by omega)]
    · rw [decide_eq_false h8, decide_eq_false (by omega)]
  have HMK := Lib.hid hmk
  have HQD := Lib.hid hqD
  have HQ := Lib.hid hq
  have hm10 : m ≤ 10 := by omega
  clear hm hmk hqD hq
  go_cut [5] (fun okv wx => ∃ vs : Value, okv = .bool q ∧ NAt w7 wx b8 vs (Sp.snapsOf names m))
  case first =>
    go_wp2_with fail
    go_loopw [5, 6] (fun okv i wr => ∃ (k : Nat) (D : Bool) (vs : Value), okv = .bool D ∧ i = .int .i64 k ∧ k ≤ names.length ∧ k ≤ 10 ∧ Hid (D = (le8 && Sp.okN names k)) ∧ Hid (NAt w7 wr b8 vs (Sp.snapsOf names k))) (fun _ i _ => 10 - (intOf i).toNat)
    case atStart => exact ⟨0, le8, _, rfl, rfl, Nat.zero_le _, Nat.zero_le _, Lib.hid (by simp [Sp.okN]), HA7⟩
    case round =>
      clear HA7
      obtain ⟨k, D, vs, rfl, rfl, hkl, hk10, HD, HA⟩ := hrel
      obtain ⟨avs, cvs, rfl⟩ := slice_of_own HA.out.own
      rw [Sp.snapsOf_length] at HA
      by_cases hin : k < names.length ∧ k < 10
      · obtain ⟨hlt, h10⟩ := hin
        have hltI : (k : Int) < (names.length : Int) := by omega
        have h10I : (k : Int) < 10 := by omega
        rcases HST.out with h | ⟨b, o, rfl, hb, Cx⟩
        · rw [h] at hlt; simp at hlt
        have KW : Keep [] w wr := K7.trans HA.out.keep (fun y hy => by simp at hy; subst hy; right; exact hwb)
        obtain ⟨x, hx⟩ : ∃ x, x = names.getD k ByteArray.empty := ⟨_, rfl⟩
        have hxk : names[k]? = some x := by rw [hx, List.getD, List.getElem?_eq_getElem hlt]; rfl
        have e0 : wr.cell? ⟨b, o + k, none⟩ = some (.string x) := by rw [KW.cell (by exact hb) (by simp)]; exact Cx k x hxk
        obtain ⟨y, hy⟩ : ∃ y, y = names.getD (k - 1) ByteArray.empty := ⟨_, rfl⟩
        have e1 : wr.cell? ⟨b, o + (k - 1), none⟩ = some (.string y) := by
          rw [KW.cell (by exact hb) (by simp)]
          exact Cx (k - 1) y (by rw [hy, List.getD, List.getElem?_eq_getElem (by omega)]; rfl)
        have hxz := HSZ.out x (List.mem_of_getElem? hxk)
        have hok : Sp.okN names (k + 1) = (Sp.okN names k && (decide (1 ≤ x.size) && decide (x.size ≤ 18) && (k == 0 || Op.bytesLess y.data.toList x.data.toList))) := by
          rw [hx, hy]; rfl
        have HOK := Lib.hid hok
        have HX := Lib.hid hx
        have c4 := HA.out.cell
        have hb8 := HA.out.blk.lt
        obtain ⟨m3, hm3, hm3b, hmm⟩ := mask2 (k : Int)
        have HMM := Lib.hid hmm
        clear hok hx hy hxk Cx hmm
        cases D with
        | false =>
          have HDN : Hid (false = (le8 && Sp.okN names (k + 1))) := Lib.hid (by rw [HOK.out, ← Bool.and_assoc, ← HD.out]; rfl)
          go_wp2_with fail
          go_quiet (fail)
          have A8 := HA.out.moved ((Keep.refl [] wr).drewN (nq + 1))
          have A8b := A8.moved ((Keep.refl [] _).alloc (.cells #[.string x, .int .i64 0, .int .i64 m3] 81))
          have c48 := A8.cell
          have c48b := A8b.cell
          have A8B := Lib.hid A8b
          have A8H := Lib.hid A8
          clear A8 A8b
          go_wp2_with fail
          go_region_law
            (refine step_app rfl (.tmp 61) (.tmp 69) 57 57 rfl _ _ rfl rfl (run_app_slice _ 57 _ 81 i0 _ 3 32 Try.underlying57 hi hz0 hz1 hz2 rfl (by decide) _ _ _ (A8H.out.own.alloc _) (some ⟨wr.heap.size, 0, none⟩) 1 1 [_, _, _] rfl (fun h => by cases h) (by intro a ha; cases ha; exact World.news_of_block (heap_alloc_new _ _)) (by simp [Value.oneCell']) (by unfold maxLen; rw [Sp.snapsOf_length]; omega) (by rw [Sp.snapsOf_length]; omega)) ?_; intro v2 w9 hO; obtain ⟨ao2, cp2, rfl⟩ := hO.slice; obtain ⟨c4d, f4d⟩ := A8B.out.mid hO; have A10 := A8B.out.push (x := ⟨x, 0, m3⟩) (by rw [Sp.snapsOf_length]) hO)
          all_goals
            have HA2 := Lib.hid A10
            clear c4 c48 c48b c4d f4d A8B A8H A10 hO
            go_wp2_with fail
            go_roundw
            case rel => exact ⟨k + 1, _, _, rfl, by go_num, by omega, by omega, HDN, Lib.hid (by rw [Sp.snapsOf_succ, ← HX.out, show (((k % 4 : Nat)) : Int) = (m3 : Int) by have := HMM.out; omega]; exact HA2.out)⟩
            case measure => simp [intOf]; omega
        | true =>
          by_cases z1 : 1 ≤ x.size
          · have z1I : (1 : Int) ≤ (x.size : Int) := by omega
            by_cases z2 : x.size ≤ 18
            · have z2I : (x.size : Int) ≤ 18 := by omega
              by_cases z3 : k = 0
              · have z3b : ((k : Int) == 0) = true := by rw [z3]; rfl
                have HDN : Hid (true = (le8 && Sp.okN names (k + 1))) := Lib.hid (by rw [HOK.out, ← Bool.and_assoc, ← HD.out]; simp [z1, z2, z3])
                clear z3 e1
                go_wp2_with fail
                go_quiet (fail)
                have A8 := HA.out.moved ((Keep.refl [] wr).drewN (nq + 1))
                have A8b := A8.moved ((Keep.refl [] _).alloc (.cells #[.string x, .int .i64 0, .int .i64 m3] 81))
                have c48 := A8.cell
                have c48b := A8b.cell
                have A8B := Lib.hid A8b
                have A8H := Lib.hid A8
                clear A8 A8b
                go_wp2_with fail
                go_region_law
                  (refine step_app rfl (.tmp 61) (.tmp 69) 57 57 rfl _ _ rfl rfl (run_app_slice _ 57 _ 81 i0 _ 3 32 Try.underlying57 hi hz0 hz1 hz2 rfl (by decide) _ _ _ (A8H.out.own.alloc _) (some ⟨wr.heap.size, 0, none⟩) 1 1 [_, _, _] rfl (fun h => by cases h) (by intro a ha; cases ha; exact World.news_of_block (heap_alloc_new _ _)) (by simp [Value.oneCell']) (by unfold maxLen; rw [Sp.snapsOf_length]; omega) (by rw [Sp.snapsOf_length]; omega)) ?_; intro v2 w9 hO; obtain ⟨ao2, cp2, rfl⟩ := hO.slice; obtain ⟨c4d, f4d⟩ := A8B.out.mid hO; have A10 := A8B.out.push (x := ⟨x, 0, m3⟩) (by rw [Sp.snapsOf_length]) hO)
                all_goals
                  have HA2 := Lib.hid A10
                  clear c4 c48 c48b c4d f4d A8B A8H A10 hO
                  go_wp2_with fail
                  go_roundw
                  case rel => exact ⟨k + 1, _, _, rfl, by go_num, by omega, by omega, HDN, Lib.hid (by rw [Sp.snapsOf_succ, ← HX.out, show (((k % 4 : Nat)) : Int) = (m3 : Int) by have := HMM.out; omega]; exact HA2.out)⟩
                  case measure => simp [intOf]; omega
              · have z3b : ((k : Int) == 0) = false := by rw [beq_eq_false_iff_ne]; omega
                have hsub : IntKind.i64.wrap ((k : Int) - 1) = ((k - 1 : Nat) : Int) := by rw [IntWalk.i64_in _ (by omega)]; omega
                have hk1 : ((k - 1 : Nat) : Int) < (names.length : Int) := by omega
                obtain ⟨z, hz⟩ : ∃ z, z = Op.bytesLess y.data.toList x.data.toList := ⟨_, rfl⟩
                have HDN : Hid (z = (le8 && Sp.okN names (k + 1))) := Lib.hid (by rw [HOK.out, ← Bool.and_assoc, ← HD.out]; simp [z1, z2, z3, hz])
                have hz' : Op.bytesLess y.toList x.toList = z := by rw [hz, Lib.toList_data, Lib.toList_data]
                clear hz z3
                go_wp2_with fail
                go_quiet (fail)
                have A8 := HA.out.moved ((Keep.refl [] wr).drewN (nq + 1))
                have A8b := A8.moved ((Keep.refl [] _).alloc (.cells #[.string x, .int .i64 0, .int .i64 m3] 81))
                have c48 := A8.cell
                have c48b := A8b.cell
                have A8B := Lib.hid A8b
                have A8H := Lib.hid A8
                clear A8 A8b
                go_wp2_with fail
                go_region_law
                  (refine step_app rfl (.tmp 61) (.tmp 69) 57 57 rfl _ _ rfl rfl (run_app_slice _ 57 _ 81 i0 _ 3 32 Try.underlying57 hi hz0 hz1 hz2 rfl (by decide) _ _ _ (A8H.out.own.alloc _) (some ⟨wr.heap.size, 0, none⟩) 1 1 [_, _, _] rfl (fun h => by cases h) (by intro a ha; cases ha; exact World.news_of_block (heap_alloc_new _ _)) (by simp [Value.oneCell']) (by unfold maxLen; rw [Sp.snapsOf_length]; omega) (by rw [Sp.snapsOf_length]; omega)) ?_; intro v2 w9 hO; obtain ⟨ao2, cp2, rfl⟩ := hO.slice; obtain ⟨c4d, f4d⟩ := A8B.out.mid hO; have A10 := A8B.out.push (x := ⟨x, 0, m3⟩) (by rw [Sp.snapsOf_length]) hO)
                all_goals
                  have HA2 := Lib.hid A10
                  clear c4 c48 c48b c4d f4d A8B A8H A10 hO
                  go_wp2_with fail
                  go_roundw
                  case rel => exact ⟨k + 1, _, _, rfl, by go_num, by omega, by omega, HDN, Lib.hid (by rw [Sp.snapsOf_succ, ← HX.out, show (((k % 4 : Nat)) : Int) = (m3 : Int) by have := HMM.out; omega]; exact HA2.out)⟩
                  case measure => simp [intOf]; omega
            · have z2d : decide ((x.size : Int) ≤ 18) = false := decide_eq_false (by omega)
              have HDN : Hid (false = (le8 && Sp.okN names (k + 1))) := Lib.hid (by rw [HOK.out, ← Bool.and_assoc, ← HD.out]; simp [z2])
              go_wp2_with fail
              go_quiet (fail)
              have A8 := HA.out.moved ((Keep.refl [] wr).drewN (nq + 1))
              have A8b := A8.moved ((Keep.refl [] _).alloc (.cells #[.string x, .int .i64 0, .int .i64 m3] 81))
              have c48 := A8.cell
              have c48b := A8b.cell
              have A8B := Lib.hid A8b
              have A8H := Lib.hid A8
              clear A8 A8b
              go_wp2_with fail
              go_region_law
                (refine step_app rfl (.tmp 61) (.tmp 69) 57 57 rfl _ _ rfl rfl (run_app_slice _ 57 _ 81 i0 _ 3 32 Try.underlying57 hi hz0 hz1 hz2 rfl (by decide) _ _ _ (A8H.out.own.alloc _) (some ⟨wr.heap.size, 0, none⟩) 1 1 [_, _, _] rfl (fun h => by cases h) (by intro a ha; cases ha; exact World.news_of_block (heap_alloc_new _ _)) (by simp [Value.oneCell']) (by unfold maxLen; rw [Sp.snapsOf_length]; omega) (by rw [Sp.snapsOf_length]; omega)) ?_; intro v2 w9 hO; obtain ⟨ao2, cp2, rfl⟩ := hO.slice; obtain ⟨c4d, f4d⟩ := A8B.out.mid hO; have A10 := A8B.out.push (x := ⟨x, 0, m3⟩) (by rw [Sp.snapsOf_length]) hO)
              all_goals
                have HA2 := Lib.hid A10
                clear c4 c48 c48b c4d f4d A8B A8H A10 hO
                go_wp2_with fail
                go_roundw
                case rel => exact ⟨k + 1, _, _, rfl, by go_num, by omega, by omega, HDN, Lib.hid (by rw [Sp.snapsOf_succ, ← HX.out, show (((k % 4 : Nat)) : Int) = (m3 : Int) by have := HMM.out; omega]; exact HA2.out)⟩
                case measure => simp [intOf]; omega
          · have z1d : decide ((1 : Int) ≤ (x.size : Int)) = false := decide_eq_false (by omega)
            have HDN : Hid (false = (le8 && Sp.okN names (k + 1))) := Lib.hid (by rw [HOK.out, ← Bool.and_assoc, ← HD.out]; simp [z1])
            go_wp2_with fail
            go_quiet (fail)
            have A8 := HA.out.moved ((Keep.refl [] wr).drewN (nq + 1))
            have A8b := A8.moved ((Keep.refl [] _).alloc (.cells #[.string x, .int .i64 0, .int .i64 m3] 81))
            have c48 := A8.cell
            have c48b := A8b.cell
            have A8B := Lib.hid A8b
            have A8H := Lib.hid A8
            clear A8 A8b
            go_wp2_with fail
            go_region_law
              (refine step_app rfl (.tmp 61) (.tmp 69) 57 57 rfl _ _ rfl rfl (run_app_slice _ 57 _ 81 i0 _ 3 32 Try.underlying57 hi hz0 hz1 hz2 rfl (by decide) _ _ _ (A8H.out.own.alloc _) (some ⟨wr.heap.size, 0, none⟩) 1 1 [_, _, _] rfl (fun h => by cases h) (by intro a ha; cases ha; exact World.news_of_block (heap_alloc_new _ _)) (by simp [Value.oneCell']) (by unfold maxLen; rw [Sp.snapsOf_length]; omega) (by rw [Sp.snapsOf_length]; omega)) ?_; intro v2 w9 hO; obtain ⟨ao2, cp2, rfl⟩ := hO.slice; obtain ⟨c4d, f4d⟩ := A8B.out.mid hO; have A10 := A8B.out.push (x := ⟨x, 0, m3⟩) (by rw [Sp.snapsOf_length]) hO)
            all_goals
              have HA2 := Lib.hid A10
              clear c4 c48 c48b c4d f4d A8B A8H A10 hO
              go_wp2_with fail
              go_roundw
              case rel => exact ⟨k + 1, _, _, rfl, by go_num, by omega, by omega, HDN, Lib.hid (by rw [Sp.snapsOf_succ, ← HX.out, show (((k % 4 : Nat)) : Int) = (m3 : Int) by have := HMM.out; omega]; exact HA2.out)⟩
              case measure => simp [intOf]; omega
      · have hkm := HMK.out k ⟨hkl, hk10, hin⟩
        have HD2 := Lib.hid (show D = q by rw [HD.out, HQD.out, hkm])
        have HA2 := Lib.hid (show NAt w7 wr b8 (.slice avs k cvs) (Sp.snapsOf names m) by rw [← hkm]; exact HA.out)
        clear hkm HD HA
        by_cases hlt : k < names.length
        · have hltI : (k : Int) < (names.length : Int) := by omega
          have h10I : ¬ (k : Int) < 10 := by omega
          have h10b : decide ((k : Int) < 10) = false := decide_eq_false h10I
          go_wp2_with fail
          go_meet
          case rel => exact ⟨_, by rw [HD2.out], HA2.out⟩
        · have hltI : ¬ (k : Int) < (names.length : Int) := by omega
          have hlb : decide ((k : Int) < (names.length : Int)) = false := decide_eq_false hltI
          go_wp2_with fail
          go_meet
          case rel => exact ⟨_, by rw [HD2.out], HA2.out⟩
  case rest =>
    clear HA7 HST HSZ HMK HQD HLE hle8I
    obtain ⟨vs, rfl, A⟩ := hcut
    obtain ⟨avs, cvs, rfl⟩ := slice_of_own A.own
    have KC : Keep [] w wc := K7.trans A.keep (fun y hy => by simp at hy; subst hy; right; exact hwb)
    obtain ⟨s, hs⟩ : ∃ s, s = (⟨7, 9, 5, 3, Sp.snapsOf names m⟩ : Sp.Su) := ⟨_, rfl⟩
    have hsl : s.snaps.length = m := by rw [hs]; exact Sp.snapsOf_length _ _
    have hg : s.gen = 7 ∧ s.root = 9 ∧ s.next = 5 ∧ s.commit = 3 := by rw [hs]; exact ⟨rfl, rfl, rfl, rfl⟩
    have hRd : RdV wc (.slice avs m cvs) m 3 (Sp.scells s.snaps) := by
      have := RdV.ofOwn A.own
      rw [Sp.snapsOf_length] at this
      rw [hs]; exact this
    have hr : Sp.right s = q := by rw [hs, HQ.out]
    have B8 : Blk wc b8 [.int .i64 7, .int .i64 9, .int .i64 5, .int .i64 3, .slice avs m cvs] 59 := by have := A.blk; rwa [Sp.snapsOf_length] at this
    have SV : SuV wc (.agg #[.int .i64 7, .int .i64 9, .int .i64 5, .int .i64 3, .slice avs m cvs]) s :=
      ⟨avs, cvs, by rw [hg.1, hg.2.1, hg.2.2.1, hg.2.2.2, hsl], by rw [hsl]; exact hRd, by omega⟩
    have q0 := B8.cell 0
    have q1 := B8.cell 1
    have q2 := B8.cell 2
    have q3 := B8.cell 3
    have q4 := B8.cell 4
    simp only [List.getElem?_cons_zero, List.getElem?_cons_succ] at q0 q1 q2 q3 q4
    have HRD := Lib.hid hRd
    have HSL := Lib.hid hsl
    clear A HQ hs hRd hsl HW7 HB8 hwb K7
    cases q with
    | false =>
      go_wp2_with fail
      refine (bytes_no s _ wc SV hr).mono ?_
      rintro e w4 ⟨rfl, k4⟩
      go_wp2_with fail
      refine (of_any _ [] w4 (rd_none w4)).mono ?_
      rintro e w5 ⟨v5, rfl, sn5, k5⟩
      have h0 := ofS_len [] (by decide)
      rw [h0.1] at sn5
      rw [h0.2]
      clear h0 q0 q1 q2 q3 q4
      obtain ⟨ao5, c5, rfl, _, _, _⟩ := sn5
      obtain ⟨W5, hW5⟩ : ∃ W, W = w5.alloc (.cells [.int .i64 0, .int .i64 0, .int .i64 0, .int .i64 0, .slice ao5 0 c5].toArray 59) := ⟨_, rfl⟩
      have k45 : Keep [] wc w5 := k4.trans k5 (by simp)
      have K5 : Keep [] wc W5 := by rw [hW5]; exact k45.alloc _
      have B5 := B8.keep k45 (by simp)
      have q0 := B5.cell 0
      have q1 := B5.cell 1
      have q2 := B5.cell 2
      have q3 := B5.cell 3
      have q4 := B5.cell 4
      simp only [List.getElem?_cons_zero, List.getElem?_cons_succ] at q0 q1 q2 q3 q4
      have hb5 := B5.lt
      go_wp2_with fail
      rw [← hW5]
      refine (right_any s _ W5 (SV.keep K5 (by simp))).mono ?_
      rintro e w6 ⟨rfl, k6⟩
      rw [hr]
      go_wp2
      go_ret
      exact ⟨rfl, (KC.trans K5 (by simp)).trans k6 (by simp)⟩
    | true =>
      obtain ⟨B, hB⟩ : ∃ B, B = Sp.block s := ⟨_, rfl⟩
      have hlen : B.length = 512 := by rw [hB]; exact Sp.block_length (Sp.right_bd hr)
      have HBL := Lib.hid hB
      go_wp2_with fail
      refine (bytes_ok s _ wc SV hr).mono ?_
      rintro e w4 ⟨aoB, cB, rfl, o4, k4, r4⟩
      rw [← hB] at o4
      have r4 : RdV w4 (.slice aoB 512 cB) B.length 1 (bv B) := by rw [hlen]; exact RdV.ofOwn o4
      have HL := Lib.hid hlen
      clear hB hlen o4
      go_wp2_with fail
      refine (of_any _ B w4 r4).mono ?_
      rintro e w6 ⟨v6, rfl, sn6, k6⟩
      have hs6 := of_block hr
      rw [← HBL.out] at hs6
      rw [hs6.1] at sn6
      rw [hs6.2]
      clear hs6 q0 q1 q2 q3 q4 r4
      obtain ⟨ao6, c6, rfl, rd6, le6, fp6⟩ := sn6
      rw [HSL.out] at rd6 ⊢
      rw [hg.1, hg.2.1, hg.2.2.1, hg.2.2.2]
      obtain ⟨W6, hW6⟩ : ∃ W, W = w6.alloc (.cells [.int .i64 7, .int .i64 9, .int .i64 5, .int .i64 3, .slice ao6 m c6].toArray 59) := ⟨_, rfl⟩
      have k46 : Keep [] wc w6 := k4.trans k6 (by simp)
      have K6 : Keep [] wc W6 := by rw [hW6]; exact k46.alloc _
      have kk6 : Keep [] w6 W6 := by rw [hW6]; exact (Keep.refl _ _).alloc _
      obtain ⟨b9, hb9⟩ : ∃ b, b = w6.heap.size := ⟨_, rfl⟩
      have B9 : Blk W6 b9 [.int .i64 7, .int .i64 9, .int .i64 5, .int .i64 3, .slice ao6 m c6] 59 := by rw [hW6, hb9]; exact Blk.new' w6 _ _
      have B6 := B8.keep k46 (by simp)
      have q0 := B6.cell 0
      have q1 := B6.cell 1
      have q2 := B6.cell 2
      have q3 := B6.cell 3
      have q4 := B6.cell 4
      simp only [List.getElem?_cons_zero, List.getElem?_cons_succ] at q0 q1 q2 q3 q4
      have hb6 := B6.lt
      have HRD6 := Lib.hid rd6
      have HB9 := Lib.hid hb9
      have HK6 := Lib.hid kk6
      clear hb9 rd6 le6 fp6 kk6
      go_wp2_with fail
      rw [← HB9.out, ← hW6]
      refine (right_any s _ W6 (SV.keep K6 (by simp))).mono ?_
      rintro e w8 ⟨rfl, k8⟩
      rw [hr]
      have C8 := (B8.keep K6 (by simp)).keep k8 (by simp)
      have C9 := B9.keep k8 (by simp)
      clear q0 q1 q2 q3 q4 hb6 hW6 B6 B9 k6 k46
      have c4 := C8.cell 4
      have d4 := C9.cell 4
      simp only [List.getElem?_cons_zero, List.getElem?_cons_succ] at c4 d4
      have KW : Keep [] w w8 := (KC.trans K6 (by simp)).trans k8 (by simp)
      go_wp2_with fail
      go_loopw [11] (fun i wr => ∃ k : Nat, k ≤ m ∧ i = .int .i64 k ∧ Keep [] w8 wr) (fun i _ => m - (intOf i).toNat)
      case atStart => exact ⟨0, Nat.zero_le _, rfl, Keep.refl _ _⟩
      case round =>
        clear c4 d4
        obtain ⟨k, hk, rfl, K⟩ := hrel
        have C1 := C8.keep K (by simp)
        have C2 := C9.keep K (by simp)
        have c4 := C1.cell 4
        have d4 := C2.cell 4
        simp only [List.getElem?_cons_zero, List.getElem?_cons_succ] at c4 d4
        by_cases hlt : k < m
        · obtain ⟨x, hx⟩ : ∃ x, s.snaps[k]? = some x := ⟨_, List.getElem?_eq_getElem (by rw [HSL.out]; exact hlt)⟩
          obtain ⟨p, rfl, _, x0, x1, x2⟩ := snap_cells HRD.out ((K6.trans k8 (by simp)).trans K (by simp)) (by simp) hx
          obtain ⟨p', rfl, _, y0, y1, y2⟩ := snap_cells HRD6.out ((HK6.out.trans k8 (by simp)).trans K (by simp)) (by simp) hx
          have NS := fun W => neqSnap W x.name x.name x.root x.commit x.root x.commit
          simp only [beq_self_eq_true, Bool.and_self, Bool.not_true] at NS
          have hltI : (k : Int) < m := by omega
          have hb8' := C1.lt
          have hb9' := C2.lt
          clear hx
          go_wp2_with fail
          go_quiet (fail)
          go_wp2
          go_roundw
          case rel => exact ⟨k + 1, by omega, by go_num, K.drewN nq⟩
          case measure => simp [intOf]; omega
        · have hltI : ¬ (k : Int) < m := by omega
          go_wp2
          go_ret
          exact ⟨rfl, KW.trans K (by simp)⟩


theorem superNames_readable : Try.f15.params.toList.all (fun t => Try.prog.readableRec t && decide (t < Try.prog.types.size)) = true := by kernel_rfl

open Go.ChangeShapes Go.WideShapes Go.ChangeAt in
set_option maxRecDepth 100000 in
theorem superNames_contract (H : Type) (enc : TypeId × Value → H) (W : World) (base : Nat) (args : Array Value) (ds gs : List (DataW H)) (before : List MemPlace)
    (hval : ∀ (j : Nat) t v, Try.f15.params[j]? = some t → args[j]? = some v → Value.okWide Try.prog W .any base t v)
    (hW : DataW.Whole enc Try.prog Try.f15.params.toList Rows.superNamesSpec.vars false W args.toList ds gs before) :
    Calls Try.prog 15 args W fun e W' => ∃ v, e = .returned v ∧ Rows.superNamesSpec.post enc Try.prog Try.f15 false true false false W args v W' := by
  have hW' := hW
  obtain ⟨p, q, hA0, hV, rfl, _, _⟩ := hW
  have hA : DataW.TrodAll enc Try.prog W 0 (fun _ => true) true Try.f15.params.toList args.toList ds p := hA0
  rw [Try.params15] at hA hval
  obtain ⟨v0, d0, rfl, rfl, h0⟩ := trodAll_one hA
  obtain ⟨rfl, rfl⟩ := trodVars_none hV
  obtain ⟨ao, l, c, rfl, h1, h2, h3, h4⟩ := open_texts (t := 22) (e := 9) Try.underlying22 Try.underlying9 (by kernel_rfl) (hval 0 22 v0 rfl rfl) h0
  refine (superNames_walk ao l c W h1 h2 h3 h4).mono fun e W' ⟨he, hk⟩ => ?_
  subst he
  exact ⟨_, rfl, law_post Try.laidOut superNames_readable rfl Try.underlying4 rfl hW' rfl hk.below0⟩

set_option maxRecDepth 100000 in
theorem superNames_lifted (os : Os) (started : os.Started) (H : Type) (enc : TypeId × Value → H) :
    ReturnsInHanded {} Try.checked os 15 .any (Rows.superNamesSpec.pre6 enc Try.prog Try.f15 Rows.superNamesRow.domain false) (Rows.superNamesSpec.post enc Try.prog Try.f15 false true false false) := by
  refine returnsInHanded_of_change_sized (C := Try.checked) Try.own started (by kernel_rfl) Try.func15
    (ChangeSpec.witness6 (enc := enc) (C := Try.checked) false ⟨#[], #[.slice none 0 0], []⟩ 8 (by kernel_rfl) (by kernel_rfl) (by kernel_rfl) (by kernel_rfl)) ?_
  intro W base args ds gs before hval hW _ _ _
  exact superNames_contract H enc W base args ds gs before hval hW

theorem superNames_holds : Rows.SuperNamesSaid :=
  OpenClaim.holds_of_wide 15 Try.f15 rfl rfl rfl rfl rfl rfl rfl ⟨rfl, rfl, rfl, rfl, rfl⟩ rfl rfl rfl rfl rfl (by kernel_rfl) Try.func15 (by kernel_rfl)
    (of_decide_eq_true (by kernel_rfl)) (by unfold Func.isWrapper; first | (rw [if_pos (by decide +kernel)]; kernel_rfl) | (rw [if_neg (by decide +kernel)]; exact ⟨rfl, rfl⟩))
    (fun os started H enc _ => superNames_lifted os started H enc)

#print axioms superNames_holds
end Go.Proofs.Yteogkgjajhdhjaa
