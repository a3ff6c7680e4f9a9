/-
  Layer 4's document: Of: the superblock whose block a text is, or none's. No condition but that the text is not too long.
-/
import Derived.Test.YteogkgjajhdhjaaSuperV
import Derived.Test.YteogkgjajhdhjaaSuperW
import Derived.Test.YteogkgjajhdhjaaSuperL
namespace Go.Proofs.Yteogkgjajhdhjaa
open Go.RowKit

theorem getI_byte (t : List UInt8) (at' : Nat) : ∃ n : Nat, getI t at' 1 = (n : Int) ∧ n ≤ 255 := by
  cases h : t[at' + 0]? with
  | none => exact ⟨0, by rw [getI_none h]; simp [getI, wrap64], by omega⟩
  | some c =>
    refine ⟨c.toNat, ?_, by have := c.toNat_lt; omega⟩
    rw [getI_some h]
    have := c.toNat_lt
    simp only [getI]
    unfold wrap64
    omega

theorem kg0_any (t : List UInt8) (w : World) (ht : t.length ≤ 1000000000) : Calls Try.prog 76 #[.string (txt t), .int .i64 0, .int .i64 8] w fun e w' => e = .returned (.int .i64 (getI t 0 8)) ∧ w = w' := kget_any t 0 8 w ht (by omega) (by omega)
theorem kg12_any (t : List UInt8) (w : World) (ht : t.length ≤ 1000000000) : Calls Try.prog 76 #[.string (txt t), .int .i64 12, .int .i64 4] w fun e w' => e = .returned (.int .i64 (getI t 12 4)) ∧ w = w' := kget_any t 12 4 w ht (by omega) (by omega)
theorem kg16_any (t : List UInt8) (w : World) (ht : t.length ≤ 1000000000) : Calls Try.prog 76 #[.string (txt t), .int .i64 16, .int .i64 4] w fun e w' => e = .returned (.int .i64 (getI t 16 4)) ∧ w = w' := kget_any t 16 4 w ht (by omega) (by omega)
theorem kg20_any (t : List UInt8) (w : World) (ht : t.length ≤ 1000000000) : Calls Try.prog 76 #[.string (txt t), .int .i64 20, .int .i64 8] w fun e w' => e = .returned (.int .i64 (getI t 20 8)) ∧ w = w' := kget_any t 20 8 w ht (by omega) (by omega)
theorem kg28_any (t : List UInt8) (w : World) (ht : t.length ≤ 1000000000) : Calls Try.prog 76 #[.string (txt t), .int .i64 28, .int .i64 1] w fun e w' => e = .returned (.int .i64 (getI t 28 1)) ∧ w = w' := kget_any t 28 1 w ht (by omega) (by omega)

theorem kg1 (t : List UInt8) (p : Nat) (w : World) (ht : t.length ≤ 1000000000) (hp : p ≤ 100000) : Calls Try.prog 76 #[.string (txt t), .int .i64 p, .int .i64 1] w fun e w' => e = .returned (.int .i64 (getI t p 1)) ∧ w = w' := kget_any t p 1 w ht (by omega) (by omega)
theorem kgc (t : List UInt8) (p n : Nat) (w : World) (ht : t.length ≤ 1000000000) (hp : p ≤ 100000) (hn : n ≤ 255) : Calls Try.prog 77 #[.string (txt t), .int .i64 ((p : Int) + 1), .int .i64 n] w fun e w' => e = .returned (.string (txt (cutI t (p + 1) n))) ∧ w = w' := kcut_any t (p + 1) n w ht (by omega) (by omega)
theorem kgr (t : List UInt8) (p n : Nat) (w : World) (ht : t.length ≤ 1000000000) (hp : p ≤ 100000) (hn : n ≤ 255) : Calls Try.prog 76 #[.string (txt t), .int .i64 ((p : Int) + 1 + n), .int .i64 4] w fun e w' => e = .returned (.int .i64 (getI t (p + 1 + n) 4)) ∧ w = w' := by
  have := kget_any t (p + 1 + n) 4 w ht (by omega) (by omega)
  simpa using this
theorem kgm (t : List UInt8) (p n : Nat) (w : World) (ht : t.length ≤ 1000000000) (hp : p ≤ 100000) (hn : n ≤ 255) : Calls Try.prog 76 #[.string (txt t), .int .i64 ((p : Int) + 5 + n), .int .i64 8] w fun e w' => e = .returned (.int .i64 (getI t (p + 5 + n) 8)) ∧ w = w' := by
  have := kget_any t (p + 5 + n) 8 w ht (by omega) (by omega)
  simpa using this

/-- in the loop of the document's Of: the superblock being read at b8, its snapshots in vs -/
structure KAt (w7 wr : World) (b8 : Nat) (a0 a1 a2 a3 : Int) (vs : Value) (sofar : List Sp.Sn) : Prop where
  keep : Keep [b8] w7 wr
  blk : Blk wr b8 [.int .i64 a0, .int .i64 a1, .int .i64 a2, .int .i64 a3, vs] 59
  blt : b8 < w7.heap.size
  own : wr.ownsRow 0 81 3 vs sofar.length (Sp.scells sofar)
  row : ∀ x ∈ rowOf vs, w7.heap.size ≤ x

theorem KAt.moved {w7 wr w' : World} {b8 : Nat} {a0 a1 a2 a3 : Int} {vs : Value} {sofar : List Sp.Sn} (h : KAt w7 wr b8 a0 a1 a2 a3 vs sofar) (k : Keep [] wr w') : KAt w7 w' b8 a0 a1 a2 a3 vs sofar :=
  ⟨h.keep.trans k (by simp), h.blk.keep k (by simp), h.blt, ownsRow_keep h.own k (by simp), h.row⟩

theorem KAt.cell {w7 wr : World} {b8 : Nat} {a0 a1 a2 a3 : Int} {vs : Value} {sofar : List Sp.Sn} (h : KAt w7 wr b8 a0 a1 a2 a3 vs sofar) : wr.cell? ⟨b8, 4, none⟩ = some vs := h.blk.cell 4

theorem KAt.push {w7 wr w' : World} {b8 : Nat} {a0 a1 a2 a3 : Int} {vs vs' : Value} {sofar : List Sp.Sn} (h : KAt w7 wr b8 a0 a1 a2 a3 vs sofar) {x : Sp.Sn} {n : Nat} (hn : n = sofar.length + 1) (o : AppOut 81 3 wr vs n (Sp.scells sofar ++ x.cells) vs' w') :
    KAt w7 (w'.setCell ⟨b8, 4, none⟩ vs') b8 a0 a1 a2 a3 vs' (sofar ++ [x]) := by
  obtain ⟨o1, o2, o3⟩ := o
  have hb8 := h.blt
  have hkg : Keep (rowOf vs) wr w' := (Keep.refl _ _).grown o2 (fun k hk => Or.inl (mem_rowOf.2 hk))
  have hrow' : ∀ k ∈ rowOf vs', w7.heap.size ≤ k := fun k hk => (o3 k hk).elim (h.row k) (fun e => Nat.le_trans h.keep.size e)
  have hk2 : Keep (b8 :: rowOf vs) wr (w'.setCell ⟨b8, 4, none⟩ vs') := (hkg.mono (by intro x hx; simp [hx])).setCell (Or.inl (by simp)) _
  have B' := h.blk.keep hkg (fun hx => by have := h.row _ hx; omega)
  have hs : Sp.scells (sofar ++ [x]) = Sp.scells sofar ++ x.cells := by simp [Sp.scells]
  subst hn
  refine ⟨(h.keep.trans hk2 ?_), B'.set 4 vs', h.blt, ?_, hrow'⟩
  · intro x hx
    rcases List.mem_cons.1 hx with rfl | hx
    · exact Or.inl (by simp)
    · exact Or.inr (h.row x hx)
  · rw [hs, List.length_append]
    exact ownsRow_keep o1 ((Keep.refl [b8] _).setCell (Or.inl (by simp)) _) (fun x hx hx' => by simp at hx'; subst hx'; have := hrow' _ hx; omega)

theorem KAt.mid {w7 wr w' : World} {b8 : Nat} {a0 a1 a2 a3 : Int} {vs vs' : Value} {sofar : List Sp.Sn} (h : KAt w7 wr b8 a0 a1 a2 a3 vs sofar) {zs : List Value} {n : Nat} (o : AppOut 81 3 wr vs n zs vs' w') :
    w'.cell? ⟨b8, 4, none⟩ = some vs ∧ w'.frozen? ⟨b8, 4, none⟩ = false := by
  have hb8 := h.blt
  have hkg : Keep (rowOf vs) wr w' := (Keep.refl _ _).grown o.2.1 (fun k hk => Or.inl (mem_rowOf.2 hk))
  have B' := h.blk.keep hkg (fun hx => by have := h.row _ hx; omega)
  exact ⟨B'.cell 4, B'.free 4⟩

set_option maxRecDepth 100000 in
set_option maxHeartbeats 16000000 in
theorem kof_any (t : List UInt8) (w : World) (ht : t.length ≤ 100000) : Calls Try.prog 56 #[.string (txt t)] w (OfOut t w) := by
  have z0 : ((0 : Nat) : Int) = 0 := rfl
  have G0 := kg0_any t
  have G12 := kg12_any t
  have G16 := kg16_any t
  have G20 := kg20_any t
  have G28 := kg28_any t
  go_enter Try.func56, Try.ntmps56
  go_wp2_with (first
    | (go_at_call 76; (with_reducible refine (G0 _ (by omega)).mono ?_); rintro e w' ⟨rfl, rfl⟩)
    | (go_at_call 76; (with_reducible refine (G12 _ (by omega)).mono ?_); rintro e w' ⟨rfl, rfl⟩)
    | (go_at_call 76; (with_reducible refine (G16 _ (by omega)).mono ?_); rintro e w' ⟨rfl, rfl⟩)
    | (go_at_call 76; (with_reducible refine (G20 _ (by omega)).mono ?_); rintro e w' ⟨rfl, rfl⟩)
    | (go_at_call 76; (with_reducible refine (G28 _ (by omega)).mono ?_); rintro e w' ⟨rfl, rfl⟩))
  obtain ⟨N, hN, hN1⟩ := getI_byte t 28
  obtain ⟨wB, hwB⟩ : ∃ wB, wB = ((w.alloc (.cells #[.int .i64 0, .int .i64 0, .int .i64 0, .int .i64 0, .slice none 0 0] 59)).alloc (.cells #[.int .i64 (getI t 0 8), .int .i64 (getI t 12 4), .int .i64 (getI t 16 4), .int .i64 (getI t 20 8), .slice none 0 0] 59)) := ⟨_, rfl⟩
  rw [← hwB, hN]
  obtain ⟨a0, ha0⟩ : ∃ a, a = getI t 0 8 := ⟨_, rfl⟩
  obtain ⟨a1, ha1⟩ : ∃ a, a = getI t 12 4 := ⟨_, rfl⟩
  obtain ⟨a2, ha2⟩ : ∃ a, a = getI t 16 4 := ⟨_, rfl⟩
  obtain ⟨a3, ha3⟩ : ∃ a, a = getI t 20 8 := ⟨_, rfl⟩
  rw [← ha0, ← ha1, ← ha2, ← ha3] at hwB ⊢
  have HS := Lib.hid (show refS t = ⟨a0, a1, a2, a3, refSnaps t N 29⟩ by unfold refS; rw [← ha0, ← ha1, ← ha2, ← ha3, hN]; rfl)
  clear ha0 ha1 ha2 ha3 hN G0 G12 G16 G20 G28
  have K0 : Keep [] w wB := by rw [hwB]; exact ((Keep.refl _ _).alloc _).alloc _
  obtain ⟨b2, hb2⟩ : ∃ b, b = w.heap.size := ⟨_, rfl⟩
  obtain ⟨b8, hb8⟩ : ∃ b, b = w.heap.size + 1 := ⟨_, rfl⟩
  have B2 : Blk wB b2 [.int .i64 0, .int .i64 0, .int .i64 0, .int .i64 0, .slice none 0 0] 59 := by rw [hwB, hb2]; exact (Blk.new' w _ _).alloc _
  have B8 : Blk wB b8 [.int .i64 a0, .int .i64 a1, .int .i64 a2, .int .i64 a3, .slice none 0 0] 59 := by
    have := Blk.new' (w.alloc (.cells #[.int .i64 0, .int .i64 0, .int .i64 0, .int .i64 0, .slice none 0 0] 59)) [.int .i64 a0, .int .i64 a1, .int .i64 a2, .int .i64 a3, .slice none 0 0] 59
    rw [hwB, hb8]
    simpa using this
  rw [← hb8, ← hb2]
  have HB := Lib.hid (show b2 = w.heap.size ∧ b8 = b2 + 1 from ⟨hb2, by omega⟩)
  clear hwB hb2 hb8
  have A0 : KAt wB wB b8 a0 a1 a2 a3 (.slice none 0 0) [] := ⟨Keep.refl _ _, B8, B8.lt, World.ownsRow_nil _ _ _ _, by simp [rowOf, Value.ownBlock]⟩
  have B8' := B8.lt
  clear B8
  obtain ⟨i0, hi, hz0, hz1, hz2⟩ := info_parts Try.info81
  go_loopw [6, 7] (fun p i wr => ∃ (k at' : Nat) (sofar : List Sp.Sn) (vs : Value), p = .int .i64 at' ∧ i = .int .i64 k ∧ k ≤ N ∧ at' ≤ 29 + k * 268 ∧ sofar.length = k ∧ sofar ++ refSnaps t (N - k) at' = refSnaps t N 29 ∧ KAt wB wr b8 a0 a1 a2 a3 vs sofar) (fun p i _ => N - (intOf i).toNat)
  case atStart => exact ⟨0, 29, [], _, rfl, rfl, Nat.zero_le _, by omega, rfl, by simp, A0⟩
  case round =>
    clear A0
    obtain ⟨k, at', sofar, vs, rfl, rfl, hk, hat, hsl, hrs, A⟩ := hrel
    by_cases hlt : k < N
    · obtain ⟨n, hn, hn1⟩ := getI_byte t at'
      have G1 := kg1 t at'
      have GC := kgc t at' n
      have GR := kgr t at' n
      have GM := kgm t at' n
      obtain ⟨avs, cvs, rfl⟩ := slice_of_own A.own
      rw [hsl] at A
      have hb8 := A.blk.lt
      obtain ⟨x, hx⟩ : ∃ x : Sp.Sn, x = ⟨txt (cutI t (at' + 1) n), getI t (at' + 1 + n) 4, getI t (at' + 5 + n) 8⟩ := ⟨_, rfl⟩
      have hrs2 : (sofar ++ [x]) ++ refSnaps t (N - (k + 1)) (at' + 13 + n) = refSnaps t N 29 := by
        rw [← hrs, show N - k = (N - (k + 1)) + 1 by omega, refSnaps, hn, Int.toNat_natCast, hx, List.append_assoc]; rfl
      have HRS := Lib.hid hrs2
      obtain ⟨nm, hnm⟩ : ∃ z, z = txt (cutI t (at' + 1) n) := ⟨_, rfl⟩
      obtain ⟨xr, hxr⟩ : ∃ z, z = getI t (at' + 1 + n) 4 := ⟨_, rfl⟩
      obtain ⟨xc, hxc⟩ : ∃ z, z = getI t (at' + 5 + n) 8 := ⟨_, rfl⟩
      have hx' : x = ⟨nm, xr, xc⟩ := by rw [hx, hnm, hxr, hxc]
      rw [← hnm] at GC
      rw [← hxr] at GR
      rw [← hxc] at GM
      have HX := Lib.hid hx'
      have A1 := A.moved ((Keep.refl [] wr).alloc (.cells #[.string nm, .int .i64 xr, .int .i64 xc] 81))
      have A2 := A1.moved ((Keep.refl [] _).alloc (.cells #[.string nm, .int .i64 xr, .int .i64 xc] 81))
      have B9 := Blk.new' wr [.string nm, .int .i64 xr, .int .i64 xc] 81
      have hat2 : at' + 13 + n ≤ 29 + (k + 1) * 268 := by omega
      clear hrs hrs2 hx hx' hnm hxr hxc
      go_upto_region 9 with
        (first
          | (go_at_call 76; (with_reducible refine (G1 _ (by omega) (by omega)).mono ?_); rintro e w' ⟨rfl, rfl⟩; rw [hn])
          | (go_at_call 77; (with_reducible refine (GC _ (by omega) (by omega) hn1).mono ?_); rintro e w' ⟨rfl, rfl⟩)
          | (go_at_call 76; (with_reducible refine (GR _ (by omega) (by omega) hn1).mono ?_); rintro e w' ⟨rfl, rfl⟩)
          | (go_at_call 76; (with_reducible refine (GM _ (by omega) (by omega) hn1).mono ?_); rintro e w' ⟨rfl, rfl⟩))
      clear G1 GC GR GM
      obtain ⟨w9, hw9⟩ : ∃ W, W = wr.alloc (.cells #[.string nm, .int .i64 xr, .int .i64 xc] 81) := ⟨_, rfl⟩
      obtain ⟨b9, hb9⟩ : ∃ b, b = wr.heap.size := ⟨_, rfl⟩
      rw [show [Value.string nm, .int .i64 xr, .int .i64 xc].toArray = #[.string nm, .int .i64 xr, .int .i64 xc] from rfl] at B9
      rw [← hw9] at A1 A2 B9 ⊢
      rw [← hb9] at B9 ⊢
      have hb9' := B9.lt
      have x0 := B9.cell 0
      have x1 := B9.cell 1
      have x2 := B9.cell 2
      simp only [List.getElem?_cons_zero, List.getElem?_cons_succ] at x0 x1 x2
      have c4 := A1.cell
      have c4b := A2.cell
      have hb8 := A1.blk.lt
      have HA2 := Lib.hid A2
      have hnw : ∀ a, some (⟨w9.heap.size, 0, none⟩ : Addr) = some a → ∀ j u, [Value.string nm, .int .i64 xr, .int .i64 xc][j]? = some u → (w9.alloc (.cells #[.string nm, .int .i64 xr, .int .i64 xc] 81)).cell? (a.add j) = some u := by
        intro a ha
        cases ha
        exact World.news_of_block (heap_alloc_new _ _)
      have hsl2 : sofar.length ≤ 255 := by omega
      have FA := Lib.hid (run_app_slice (P := Try.prog) (w9.alloc (.cells #[.string nm, .int .i64 xr, .int .i64 xc] 81)) 57 57 81 i0 _ 3 32 Try.underlying57 hi hz0 hz1 hz2 rfl (by decide) (.slice avs k cvs) sofar.length (Sp.scells sofar) A2.own (some ⟨w9.heap.size, 0, none⟩) 1 1 [.string nm, .int .i64 xr, .int .i64 xc] rfl (fun h => by cases h) hnw (by simp [Value.oneCell']) (by unfold maxLen; omega) (by omega))
      clear A A1 A2 B9 hw9 hb9 hnw hat hk hn
      go_wp2_with
        (at_builtin; refine wpList_app rfl (.tmp 50) (.tmp 52) 57 57 rfl _ _ rfl rfl FA.out ?_; intro v2 w10 hO; obtain ⟨ao2, cp2, rfl⟩ := hO.slice; obtain ⟨c4d, f4d⟩ := HA2.out.mid hO; have A6 := HA2.out.push (x := ⟨nm, xr, xc⟩) rfl hO)
      go_roundw
      case rel =>
        rw [hsl] at A6
        refine ⟨k + 1, at' + 13 + n, sofar ++ [⟨nm, xr, xc⟩], _, ?_, by go_num, by omega, hat2, by simp [hsl], ?_, A6⟩
        · go_num
        · rw [← HX.out]; exact HRS.out
      case measure => simp [intOf]; omega
    · obtain rfl : k = N := by omega
      have hsn : sofar = refSnaps t k 29 := by rw [Nat.sub_self, refSnaps, List.append_nil] at hrs; exact hrs
      obtain ⟨avs, cvs, rfl⟩ := slice_of_own A.own
      rw [← hsn] at HS
      have SV : SuV wr (.agg #[.int .i64 a0, .int .i64 a1, .int .i64 a2, .int .i64 a3, .slice avs sofar.length cvs]) ⟨a0, a1, a2, a3, sofar⟩ := ⟨avs, cvs, rfl, RdV.ofOwn A.own, by show sofar.length ≤ _; omega⟩
      rw [hsl] at A SV
      have hsz : w.heap.size ≤ wB.heap.size := K0.size
      have HO := Lib.hid A.own
      have HRow := Lib.hid A.row
      have h2w : w.heap.size ≤ b2 := by have := HB.out; omega
      have B2r := B2.keep A.keep (by have := HB.out; simp; omega)
      have KW := K0.trans A.keep (fun x hx => by have := HB.out; simp at hx; omega)
      have q0 := A.blk.cell 0
      have q1 := A.blk.cell 1
      have q2 := A.blk.cell 2
      have q3 := A.blk.cell 3
      have q4 := A.blk.cell 4
      simp only [List.getElem?_cons_zero, List.getElem?_cons_succ] at q0 q1 q2 q3 q4
      have B8r := A.blk
      clear A hrs hsn B2 hat
      have HL := Lib.hid hsl
      clear hsl hk hlt
      go_wp2_with fail
      clear q0 q1 q2 q3 q4
      cases hr : Sp.right ⟨a0, a1, a2, a3, sofar⟩ with
      | false =>
        refine (kbytes_no _ _ wr SV hr).mono ?_
        rintro e w1 ⟨rfl, k1⟩
        have hof : Sp.of t = none := by rw [refS_of, HS.out, if_neg (by rw [hr]; simp)]
        have B2z := B2r.keep k1 (by simp)
        have B8z := B8r.keep k1 (by simp)
        have KZ := KW.trans k1 (by simp)
        have p0 := B2z.cell 0
        have p1 := B2z.cell 1
        have p2 := B2z.cell 2
        have p3 := B2z.cell 3
        have p4 := B2z.cell 4
        have q0 := B8z.cell 0
        have q1 := B8z.cell 1
        have q2 := B8z.cell 2
        have q3 := B8z.cell 3
        have q4 := B8z.cell 4
        simp only [List.getElem?_cons_zero, List.getElem?_cons_succ] at p0 p1 p2 p3 p4 q0 q1 q2 q3 q4
        have f0 := B2z.free 0
        have f1 := B2z.free 1
        have f2 := B2z.free 2
        have f3 := B2z.free 3
        have f4 := B2z.free 4
        have R0 : ∀ x0, (w1.setCell ⟨b2, 0, none⟩ x0).cell? ⟨b2, 0, none⟩ = some x0 := fun x0 => (B2z.set 0 x0).cell 0
        have R1 : ∀ x0 x1, ((w1.setCell ⟨b2, 0, none⟩ x0).setCell ⟨b2, 1, none⟩ x1).cell? ⟨b2, 1, none⟩ = some x1 := fun x0 x1 => ((B2z.set 0 x0).set 1 x1).cell 1
        have R2 : ∀ x0 x1 x2, (((w1.setCell ⟨b2, 0, none⟩ x0).setCell ⟨b2, 1, none⟩ x1).setCell ⟨b2, 2, none⟩ x2).cell? ⟨b2, 2, none⟩ = some x2 := fun x0 x1 x2 => (((B2z.set 0 x0).set 1 x1).set 2 x2).cell 2
        have R3 : ∀ x0 x1 x2 x3, ((((w1.setCell ⟨b2, 0, none⟩ x0).setCell ⟨b2, 1, none⟩ x1).setCell ⟨b2, 2, none⟩ x2).setCell ⟨b2, 3, none⟩ x3).cell? ⟨b2, 3, none⟩ = some x3 := fun x0 x1 x2 x3 => ((((B2z.set 0 x0).set 1 x1).set 2 x2).set 3 x3).cell 3
        have R4 : ∀ x0 x1 x2 x3 x4, (((((w1.setCell ⟨b2, 0, none⟩ x0).setCell ⟨b2, 1, none⟩ x1).setCell ⟨b2, 2, none⟩ x2).setCell ⟨b2, 3, none⟩ x3).setCell ⟨b2, 4, none⟩ x4).cell? ⟨b2, 4, none⟩ = some x4 := fun x0 x1 x2 x3 x4 => (((((B2z.set 0 x0).set 1 x1).set 2 x2).set 3 x3).set 4 x4).cell 4
        have KF : ∀ x0 x1 x2 x3 x4, Keep [] w (((((w1.setCell ⟨b2, 0, none⟩ x0).setCell ⟨b2, 1, none⟩ x1).setCell ⟨b2, 2, none⟩ x2).setCell ⟨b2, 3, none⟩ x3).setCell ⟨b2, 4, none⟩ x4) := fun x0 x1 x2 x3 x4 =>
          ((((KZ.setCell (Or.inr h2w) _).setCell (Or.inr h2w) _).setCell (Or.inr h2w) _).setCell (Or.inr h2w) _).setCell (Or.inr h2w) _
        go_wp2
        refine bodyPost_ret (v := .tuple #[.agg #[.int .i64 0, .int .i64 0, .int .i64 0, .int .i64 0, .slice none 0 0], .int .i64 12]) ?_ rfl (of_no hof rfl ?_)
        · simp [results, Try.results56, go_sem, R0, R1, R2, R3, R4]
        · exact KF _ _ _ _ _
      | true =>
        refine (kbytes_ok _ _ wr SV hr).mono ?_
        rintro e w1 ⟨rfl, k1⟩
        obtain ⟨X, hX⟩ : ∃ X, X = txt (Sp.block ⟨a0, a1, a2, a3, sofar⟩) := ⟨_, rfl⟩
        obtain ⟨T, hT⟩ : ∃ T, T = txt t := ⟨_, rfl⟩
        rw [← hX, ← hT]
        by_cases hxt : Sp.block ⟨a0, a1, a2, a3, sofar⟩ = t
        · have hof : Sp.of t = some ⟨a0, a1, a2, a3, sofar⟩ := by rw [refS_of, HS.out, if_pos ⟨hr, hxt⟩]
          have hXT : X = T := by rw [hX, hT, hxt]
          subst hXT
          have HX := Lib.hid hX
          clear hX hT hxt
          have B2z := B2r.keep k1 (by simp)
          have B8z := B8r.keep k1 (by simp)
          have KZ := KW.trans k1 (by simp)
          have p0 := B2z.cell 0
          have p1 := B2z.cell 1
          have p2 := B2z.cell 2
          have p3 := B2z.cell 3
          have p4 := B2z.cell 4
          have q0 := B8z.cell 0
          have q1 := B8z.cell 1
          have q2 := B8z.cell 2
          have q3 := B8z.cell 3
          have q4 := B8z.cell 4
          simp only [List.getElem?_cons_zero, List.getElem?_cons_succ] at p0 p1 p2 p3 p4 q0 q1 q2 q3 q4
          have f0 := B2z.free 0
          have f1 := B2z.free 1
          have f2 := B2z.free 2
          have f3 := B2z.free 3
          have f4 := B2z.free 4
          have R0 : ∀ x0, (w1.setCell ⟨b2, 0, none⟩ x0).cell? ⟨b2, 0, none⟩ = some x0 := fun x0 => (B2z.set 0 x0).cell 0
          have R1 : ∀ x0 x1, ((w1.setCell ⟨b2, 0, none⟩ x0).setCell ⟨b2, 1, none⟩ x1).cell? ⟨b2, 1, none⟩ = some x1 := fun x0 x1 => ((B2z.set 0 x0).set 1 x1).cell 1
          have R2 : ∀ x0 x1 x2, (((w1.setCell ⟨b2, 0, none⟩ x0).setCell ⟨b2, 1, none⟩ x1).setCell ⟨b2, 2, none⟩ x2).cell? ⟨b2, 2, none⟩ = some x2 := fun x0 x1 x2 => (((B2z.set 0 x0).set 1 x1).set 2 x2).cell 2
          have R3 : ∀ x0 x1 x2 x3, ((((w1.setCell ⟨b2, 0, none⟩ x0).setCell ⟨b2, 1, none⟩ x1).setCell ⟨b2, 2, none⟩ x2).setCell ⟨b2, 3, none⟩ x3).cell? ⟨b2, 3, none⟩ = some x3 := fun x0 x1 x2 x3 => ((((B2z.set 0 x0).set 1 x1).set 2 x2).set 3 x3).cell 3
          have R4 : ∀ x0 x1 x2 x3 x4, (((((w1.setCell ⟨b2, 0, none⟩ x0).setCell ⟨b2, 1, none⟩ x1).setCell ⟨b2, 2, none⟩ x2).setCell ⟨b2, 3, none⟩ x3).setCell ⟨b2, 4, none⟩ x4).cell? ⟨b2, 4, none⟩ = some x4 := fun x0 x1 x2 x3 x4 => (((((B2z.set 0 x0).set 1 x1).set 2 x2).set 3 x3).set 4 x4).cell 4
          have KF : ∀ x0 x1 x2 x3 x4, Keep [] w (((((w1.setCell ⟨b2, 0, none⟩ x0).setCell ⟨b2, 1, none⟩ x1).setCell ⟨b2, 2, none⟩ x2).setCell ⟨b2, 3, none⟩ x3).setCell ⟨b2, 4, none⟩ x4) := fun x0 x1 x2 x3 x4 =>
            ((((KZ.setCell (Or.inr h2w) _).setCell (Or.inr h2w) _).setCell (Or.inr h2w) _).setCell (Or.inr h2w) _).setCell (Or.inr h2w) _
          have KG : Keep [b2] w1 w1 := Keep.refl _ _
          have KGF : ∀ x0 x1 x2 x3 x4, Keep [b2] wr (((((w1.setCell ⟨b2, 0, none⟩ x0).setCell ⟨b2, 1, none⟩ x1).setCell ⟨b2, 2, none⟩ x2).setCell ⟨b2, 3, none⟩ x3).setCell ⟨b2, 4, none⟩ x4) := fun x0 x1 x2 x3 x4 =>
            (((((k1.mono (G := [b2]) (by simp)).setCell (Or.inl (by simp)) _).setCell (Or.inl (by simp)) _).setCell (Or.inl (by simp)) _).setCell (Or.inl (by simp)) _).setCell (Or.inl (by simp)) _
          have n28 : ¬ (b2 = b8) := by have := HB.out; omega
          have n82 : ¬ (b8 = b2) := by have := HB.out; omega
          go_wp2
          refine bodyPost_ret (v := .tuple #[.agg #[.int .i64 a0, .int .i64 a1, .int .i64 a2, .int .i64 a3, .slice avs k cvs], .int .i64 0]) ?_ rfl (of_yes (s := ⟨a0, a1, a2, a3, sofar⟩) hof rfl ?_ ?_)
          · simp [results, Try.results56, go_sem, R0, R1, R2, R3, R4]
          · exact ⟨avs, cvs, by rw [HL.out], (RdV.ofOwn (by have := HO.out; rw [HL.out] at this ⊢; exact this)).keep (KGF _ _ _ _ _) (fun x hx hb => by rw [List.mem_singleton] at hb; have := HRow.out x (fpOf_rowOf (by rw [HL.out] at hx; exact hx)); have := HB.out; omega), by show sofar.length ≤ _; rw [HL.out]; omega, fun x hx => Nat.le_trans hsz (HRow.out x (fpOf_rowOf (by rw [HL.out] at hx; exact hx)))⟩
          · exact KF _ _ _ _ _
        · have hof : Sp.of t = none := by rw [refS_of, HS.out, if_neg (fun h => hxt h.2)]
          have hXTb : (X.toList == T.toList) = false := by
            rw [beq_eq_false_iff_ne, Lib.toList_data, Lib.toList_data]
            intro e
            rw [hX, hT] at e
            exact hxt (by simpa [txt] using e)
          have HX := Lib.hid hX
          have HT := Lib.hid hT
          clear hX hT hxt
          have B2z := B2r.keep k1 (by simp)
          have B8z := B8r.keep k1 (by simp)
          have KZ := KW.trans k1 (by simp)
          have p0 := B2z.cell 0
          have p1 := B2z.cell 1
          have p2 := B2z.cell 2
          have p3 := B2z.cell 3
          have p4 := B2z.cell 4
          have q0 := B8z.cell 0
          have q1 := B8z.cell 1
          have q2 := B8z.cell 2
          have q3 := B8z.cell 3
          have q4 := B8z.cell 4
          simp only [List.getElem?_cons_zero, List.getElem?_cons_succ] at p0 p1 p2 p3 p4 q0 q1 q2 q3 q4
          have f0 := B2z.free 0
          have f1 := B2z.free 1
          have f2 := B2z.free 2
          have f3 := B2z.free 3
          have f4 := B2z.free 4
          have R0 : ∀ x0, (w1.setCell ⟨b2, 0, none⟩ x0).cell? ⟨b2, 0, none⟩ = some x0 := fun x0 => (B2z.set 0 x0).cell 0
          have R1 : ∀ x0 x1, ((w1.setCell ⟨b2, 0, none⟩ x0).setCell ⟨b2, 1, none⟩ x1).cell? ⟨b2, 1, none⟩ = some x1 := fun x0 x1 => ((B2z.set 0 x0).set 1 x1).cell 1
          have R2 : ∀ x0 x1 x2, (((w1.setCell ⟨b2, 0, none⟩ x0).setCell ⟨b2, 1, none⟩ x1).setCell ⟨b2, 2, none⟩ x2).cell? ⟨b2, 2, none⟩ = some x2 := fun x0 x1 x2 => (((B2z.set 0 x0).set 1 x1).set 2 x2).cell 2
          have R3 : ∀ x0 x1 x2 x3, ((((w1.setCell ⟨b2, 0, none⟩ x0).setCell ⟨b2, 1, none⟩ x1).setCell ⟨b2, 2, none⟩ x2).setCell ⟨b2, 3, none⟩ x3).cell? ⟨b2, 3, none⟩ = some x3 := fun x0 x1 x2 x3 => ((((B2z.set 0 x0).set 1 x1).set 2 x2).set 3 x3).cell 3
          have R4 : ∀ x0 x1 x2 x3 x4, (((((w1.setCell ⟨b2, 0, none⟩ x0).setCell ⟨b2, 1, none⟩ x1).setCell ⟨b2, 2, none⟩ x2).setCell ⟨b2, 3, none⟩ x3).setCell ⟨b2, 4, none⟩ x4).cell? ⟨b2, 4, none⟩ = some x4 := fun x0 x1 x2 x3 x4 => (((((B2z.set 0 x0).set 1 x1).set 2 x2).set 3 x3).set 4 x4).cell 4
          have KF : ∀ x0 x1 x2 x3 x4, Keep [] w (((((w1.setCell ⟨b2, 0, none⟩ x0).setCell ⟨b2, 1, none⟩ x1).setCell ⟨b2, 2, none⟩ x2).setCell ⟨b2, 3, none⟩ x3).setCell ⟨b2, 4, none⟩ x4) := fun x0 x1 x2 x3 x4 =>
            ((((KZ.setCell (Or.inr h2w) _).setCell (Or.inr h2w) _).setCell (Or.inr h2w) _).setCell (Or.inr h2w) _).setCell (Or.inr h2w) _
          go_wp2
          refine bodyPost_ret (v := .tuple #[.agg #[.int .i64 0, .int .i64 0, .int .i64 0, .int .i64 0, .slice none 0 0], .int .i64 12]) ?_ rfl (of_no hof rfl ?_)
          · simp [results, Try.results56, go_sem, R0, R1, R2, R3, R4]
          · exact KF _ _ _ _ _
end Go.Proofs.Yteogkgjajhdhjaa
