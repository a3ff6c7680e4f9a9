/-
  The writer of package pack: what each of its methods does to it. No condition but that it is a writer, and that it is not longer than may be.
-/
import Derived.Test.YteogkgjajhdhjaaBase
import Derived.Test.YteogkgjajhdhjaaRegion
import Derived.Test.YteogkgjajhdhjaaPackFns
import Derived.Test.YteogkgjajhdhjaaProg
namespace Go.Proofs.Yteogkgjajhdhjaa
open Go.RowKit

theorem Try.info5 : (Try.prog.info? 5).map (fun i => (i.zero, i.size, i.bytes)) = some (some (.int .u8 0), 1, 1) := by kernel_rfl

/-- bytes as cells -/
def bv (l : List UInt8) : List Value := l.map fun b => Value.int .u8 b.toNat

/-- a writer at block bw whose slice is v -/
structure IsW (w : World) (bw : Nat) (v : Value) (st : Pk.Wr) : Prop where
  blk : Blk w bw [v, .int .i64 st.most, .bool st.bad] 85
  own : w.ownsRow 0 5 1 v st.b.length (bv st.b)
  apart : bw ∉ rowOf v
  le : st.b.length ≤ st.most
  cap : st.most ≤ 1000000

theorem IsW.shape {w : World} {bw : Nat} {v : Value} {st : Pk.Wr} (h : IsW w bw v st) : ∃ ao cap, v = .slice ao st.b.length cap := by
  rcases h.own.2 with ⟨h1, h2⟩ | ⟨g, cap, cur, h1, _⟩
  · exact ⟨none, 0, by rw [h1, h2]⟩
  · exact ⟨_, cap, h1⟩

theorem IsW.keep {F : List Nat} {w w' : World} {bw : Nat} {v : Value} {st : Pk.Wr} (h : IsW w bw v st) (k : Keep F w w') (hb : bw ∉ F) (hr : ∀ x ∈ rowOf v, x ∉ F) : IsW w' bw v st :=
  ⟨h.blk.keep k hb, ownsRow_keep h.own k hr, h.apart, h.le, h.cap⟩

set_option maxRecDepth 100000 in
set_option maxHeartbeats 400000 in
theorem room_walk (bw : Nat) (ao : Option Addr) (len cap : Nat) (most : Int) (bad : Bool) (n : Int) (may : Bool) (w : World) (hm0 : 0 ≤ most) (hm1 : most ≤ 1000000) (hl : (len : Int) ≤ most) (h : Blk w bw [.slice ao len cap, .int .i64 most, .bool bad] 85) :
    Calls Try.prog 63 #[.pointer (some ⟨bw, 0, none⟩), .int .i64 n, .bool may] w fun e w' => e = .returned (.bool (!(bad || !may || decide (most - len < n)))) ∧ (w.setCell ⟨bw, 2, none⟩ (.bool (bad || !may || decide (most - len < n)))).drew = w' := by
  have c0 := h.cell 0
  have c1 := h.cell 1
  have c2 := h.cell 2
  have f2 := h.free 2
  simp only [List.getElem?_cons_zero, List.getElem?_cons_succ] at c0 c1 c2
  clear h
  cases bad <;> cases may
  all_goals
    go_enter Try.func63, Try.ntmps63
    go_wp2
    (refine wp_region_quiet_tail 25 (by kernel_rfl) (by kernel_rfl) ?_; simp only [List.take_succ_cons, List.take_zero, List.drop_succ_cons, List.drop_zero]; (repeat (go_big_quiet_step (fail))); with_reducible refine wpQuiet_nil ?_)
    go_wp2
    all_goals go_ret
    all_goals exact ⟨by simp, by simp⟩

/-- what a method leaves of the writer at bw whose slice was v: the state st', nothing else touched -/
def WOut (w w' : World) (bw : Nat) (v : Value) (st' : Pk.Wr) : Prop :=
  ∃ v', IsW w' bw v' st' ∧ Keep (bw :: rowOf v) w w' ∧ ∀ k ∈ rowOf v', k ∈ rowOf v ∨ w.heap.size ≤ k

theorem room_any (bw : Nat) (v : Value) (st : Pk.Wr) (n : Int) (may : Bool) (w : World) (h : IsW w bw v st) :
    Calls Try.prog 63 #[.pointer (some ⟨bw, 0, none⟩), .int .i64 n, .bool may] w fun e w' => e = .returned (.bool (st.room n may)) ∧ IsW w' bw v { st with bad := !st.room n may } ∧ Keep [bw] w w' := by
  obtain ⟨ao, cap, rfl⟩ := h.shape
  refine (room_walk bw ao st.b.length cap st.most st.bad n may w (by omega) (by have := h.cap; omega) (by have := h.le; omega) h.blk).mono ?_
  rintro e w' ⟨rfl, rfl⟩
  refine ⟨rfl, ⟨?_, ?_, h.apart, h.le, h.cap⟩, ((Keep.refl _ _).setCell (Or.inl (by simp)) _).drew⟩
  · have := (h.blk.set 2 (.bool (st.bad || !may || decide ((st.most : Int) - st.b.length < n)))).drew
    simpa [Pk.Wr.room] using this
  · exact (ownsRow_keep h.own ((Keep.refl [bw] _).setCell (Or.inl (by simp)) _) (by have := h.apart; intro x hx hm; simp at hm; subst hm; exact this hx)).drew

theorem WOut.step {w w1 w2 : World} {bw : Nat} {v v1 : Value} {st2 : Pk.Wr} (k1 : Keep (bw :: rowOf v) w w1) (r1 : ∀ k ∈ rowOf v1, k ∈ rowOf v ∨ w.heap.size ≤ k) (h : WOut w1 w2 bw v1 st2) : WOut w w2 bw v st2 := by
  obtain ⟨v2, h2, k2, r2⟩ := h
  refine ⟨v2, h2, k1.trans k2 fun x hx => ?_, fun x hx => ?_⟩
  · rcases List.mem_cons.1 hx with rfl | hx
    · exact Or.inl (by simp)
    · exact (r1 x hx).imp (fun h => by simp [h]) id
  · rcases r2 x hx with h | h
    · exact r1 x h
    · exact Or.inr (Nat.le_trans k1.size h)

/-- behind an append onto the writer's slice, and the store of the new one -/
theorem app_store {wr W w2 : World} {bw : Nat} {v v2 : Value} {st : Pk.Wr} {m : Nat} {b2 : List UInt8} {zs : List Value} (h : IsW wr bw v st) (kW : Keep [] wr W) (hO : AppOut 5 1 W v m zs v2 w2) (hz : zs = bv b2) (hle : b2.length ≤ st.most) :
    Blk w2 bw [v, .int .i64 st.most, .bool st.bad] 85 ∧ WOut wr (w2.setCell ⟨bw, 0, none⟩ v2) bw v { st with b := b2 } := by
  subst hz
  obtain ⟨o, g, r⟩ := hO
  have hb := (h.blk.keep kW (by simp)).grown g (by intro e; exact h.apart (mem_rowOf.2 e.symm))
  have hm : m = b2.length := by have := o.1; simp [bv] at this; exact this.symm
  subst hm
  have hlt : bw < W.heap.size := (h.blk.keep kW (by simp)).lt
  have hap : bw ∉ rowOf v2 := fun hx => (r bw hx).elim h.apart (fun e => by omega)
  refine ⟨hb, v2, ⟨?_, ?_, hap, hle, h.cap⟩, ?_, fun k hk => (r k hk).imp id (fun e => by have := kW.size; omega)⟩
  · exact hb.set 0 v2
  · exact ownsRow_keep o ((Keep.refl [bw] _).setCell (Or.inl (by simp)) _) (by intro x hx hx'; simp at hx'; subst hx'; exact hap hx)
  · exact ((kW.mono (G := bw :: rowOf v) (by simp)).grown g (fun k hk => Or.inl (by simp [mem_rowOf, hk]))).setCell (Or.inl (by simp)) _

theorem room_true {st : Pk.Wr} {n : Int} {may : Bool} (h : st.room n may = true) : st.bad = false ∧ may = true ∧ n ≤ st.most - st.b.length := by
  simp [Pk.Wr.room] at h
  exact ⟨h.1.1, h.1.2, by omega⟩

theorem bv_append (a b : List UInt8) : bv (a ++ b) = bv a ++ bv b := by simp [bv]

theorem u8_of (x : Int) (j : Nat) (hx : 0 ≤ x) : IntKind.u8.wrap (x / 2 ^ (8 * (j : Int)).toNat) = ((UInt8.ofNat (x.toNat / 256 ^ j)).toNat : Int) := by
  obtain ⟨y, rfl⟩ := Int.eq_ofNat_of_zero_le hx
  have h1 : (8 * (j : Int)).toNat = 8 * j := by omega
  have h2 : (2 : Int) ^ (8 * j) = ((256 ^ j : Nat) : Int) := by
    rw [Int.pow_mul]; simp
  rw [h1, h2, Int.toNat_natCast, ← Int.natCast_ediv, IntKind.wrap_u8]
  simp

theorem number_step (st : List UInt8) (x : Int) (n j k : Nat) (hx : 0 ≤ x) (h : j + 1 + k = n) :
    bv (st ++ (Pk.be x.toNat n).take k) ++ [Value.int .u8 (IntKind.u8.wrap (x / 2 ^ (8 * (j : Int)).toNat))] = bv (st ++ (Pk.be x.toNat n).take (k + 1)) := by
  rw [u8_of x j hx, Pk.be_take _ _ _ (by omega), show n - 1 - k = j by omega, ← List.append_assoc, bv_append (st ++ _)]
  rfl

set_option maxRecDepth 100000 in
set_option maxHeartbeats 800000 in
theorem number_any (bw : Nat) (v : Value) (st : Pk.Wr) (x : Int) (n : Nat) (may : Bool) (w : World) (hx0 : 0 ≤ x) (hn : n ≤ 8) (h : IsW w bw v st) :
    Calls Try.prog 71 #[.pointer (some ⟨bw, 0, none⟩), .int .u64 x, .int .i64 n, .bool may] w fun e w' => e = .returned (.tuple #[]) ∧ WOut w w' bw v (st.put (Pk.be x.toNat n) may) := by
  obtain ⟨i0, hi, hz0, hz1, hz2⟩ := info_parts Try.info5
  cases hr : st.room n may with
  | false =>
    go_enter Try.func71, Try.ntmps71
    go_wp2_with fail
    refine (room_any bw v st n may w h).mono ?_
    rintro e w1 ⟨rfl, h1, k1⟩
    rw [hr]
    go_wp2
    go_returns
    refine ⟨rfl, v, ?_, k1.mono (by simp), fun k hk => Or.inl hk⟩
    have e : st.put (Pk.be x.toNat n) may = { st with bad := true } := by unfold Pk.Wr.put; rw [Pk.be_length, hr]; rfl
    rw [e]; rw [hr] at h1; exact h1
  | true =>
    obtain ⟨hbad, rfl, hroom⟩ := room_true hr
    have hcap := h.cap
    go_enter Try.func71, Try.ntmps71
    go_wp2_with fail
    refine (room_any bw v st n true w h).mono ?_
    rintro e w1 ⟨rfl, h1, k1⟩
    rw [hr]
    go_wp2_with fail
    go_loopw [8] (fun i wr => ∃ m k : Nat, m + k = n ∧ i = .int .i64 ((m : Int) - 1) ∧ WOut w wr bw v { st with b := st.b ++ (Pk.be x.toNat n).take k, bad := false }) (fun i _ => (intOf i + 1).toNat)
    case atStart => exact ⟨n, 0, rfl, rfl, v, by simpa [hr] using h1, k1.mono (by simp), fun k hk => Or.inl hk⟩
    case round =>
      obtain ⟨m, k, hmk, rfl, hW⟩ := hrel
      cases m with
      | zero =>
        go_wp2
        go_end0
        refine ⟨rfl, ?_⟩
        have hk : k = n := by omega
        subst hk
        have e : st.put (Pk.be x.toNat k) true = { st with b := st.b ++ (Pk.be x.toNat k).take k, bad := false } := by
          have hl : List.take k (Pk.be x.toNat k) = Pk.be x.toNat k := List.take_of_length_le (by rw [Pk.be_length]; exact Nat.le_refl _)
          unfold Pk.Wr.put
          rw [Pk.be_length, hr, if_pos rfl, hl, hbad]
        rw [e]
        exact hW
      | succ j =>
        obtain ⟨v', h2, k2, r2⟩ := hW
        have c0 : wr.cell? ⟨bw, 0, none⟩ = some v' := h2.blk.cell 0
        obtain ⟨L, hLe⟩ : ∃ L, L = (st.b ++ List.take k (Pk.be x.toNat n)).length := ⟨_, rfl⟩
        have hL : L ≤ st.b.length + n := by rw [hLe]; simp [Pk.be_length]; omega
        have hown : wr.ownsRow 0 5 1 v' L (bv (st.b ++ List.take k (Pk.be x.toNat n))) := by rw [hLe]; exact h2.own
        clear hLe
        have hbw := h2.blk.lt
        have f0 := h2.blk.free 0
        have HMK := Lib.hid hmk
        clear hmk
        rw [show ((j + 1 : Nat) : Int) - 1 = (j : Int) by omega]
        have hj8 : j < 8 := by have := HMK.out; omega
        have hs : IntKind.i64.wrap (8 * (j : Int)) = 8 * (j : Int) := IntWalk.i64_in _ (by omega)
        have hs0 : 0 ≤ 8 * (j : Int) := by omega
        go_wp2
        go_region_law (refine step_app rfl _ _ 27 27 rfl _ _ rfl rfl (run_app_slice _ 27 _ 5 i0 _ 1 1 Try.underlying27 hi hz0 hz1 hz2 rfl (by decide) _ _ _ (by exact (hown.alloc _).drew) (some ⟨wr.heap.size, 0, none⟩) 1 1 [_] rfl (fun h => by cases h) (by intro a ha; cases ha; exact World.news_of_block (heap_alloc_new _ _)) (fun u hu => by simp at hu; subst hu; rfl) (by unfold maxLen; omega) (by omega)) ?_; intro v2 w2 hO; obtain ⟨ao2, cp2, rfl⟩ := hO.slice; obtain ⟨b2, W2⟩ := app_store (b2 := st.b ++ List.take (k + 1) (Pk.be x.toNat n)) h2 (((Keep.refl _ _).alloc _).drew) hO (number_step st.b x n j k hx0 HMK.out) (by have := HMK.out; simp [Pk.be_length]; omega); have c2 := b2.cell 0; have f2 := b2.free 0)
        all_goals
          clear c2 f2 c0 f0 hown hO b2
          go_wp2
          go_roundw
          case rel => exact ⟨j, k + 1, by have := HMK.out; omega, rfl, W2.step k2 r2⟩
          case measure => simp [intOf]

theorem number_all (bw : Nat) (v : Value) (st : Pk.Wr) (x n : Int) (may : Bool) (w : World) (hx0 : 0 ≤ x) (hn0 : 0 ≤ n) (hn : n ≤ 8) (h : IsW w bw v st) :
    Calls Try.prog 71 #[.pointer (some ⟨bw, 0, none⟩), .int .u64 x, .int .i64 n, .bool may] w fun e w' => e = .returned (.tuple #[]) ∧ WOut w w' bw v (st.put (Pk.be x.toNat n.toNat) may) := by
  obtain ⟨k, rfl⟩ := Int.eq_ofNat_of_zero_le hn0
  exact number_any bw v st x k may w hx0 (by omega) h

theorem put_false (st : Pk.Wr) (l : List UInt8) : st.put l false = { st with bad := true } := by simp [Pk.Wr.put, Pk.Wr.room]

end Go.Proofs.Yteogkgjajhdhjaa
