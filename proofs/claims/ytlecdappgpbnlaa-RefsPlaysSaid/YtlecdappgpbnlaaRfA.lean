/-
  Package refs: what New, Take, Free, Count, Dec, Inc and Mark do. No condition but that the receiver is one that New made, or a later one.
-/
import Derived.Test.YtlecdappgpbnlaaRfMap
import Derived.Test.YtlecdappgpbnlaaRegion
namespace Go.Proofs.Ytlecdappgpbnlaa
open Go.RowKit

/-- at block r lies a Refs of B blocks whose counts are f; its map lies in block bm -/
structure IsRf (w : World) (r bm : Nat) (f : Int → Int) (B low : Int) : Prop where
  blk : Blk w r [.int .i64 B, .map (some bm), .int .i64 low] 53
  map : RMap w bm f B
  good : Rf.Good f B low
  ne : r ≠ bm

theorem IsRf.keep {F : List Nat} {w w' : World} {r bm : Nat} {f : Int → Int} {B low : Int} (h : IsRf w r bm f B low) (k : Keep F w w') (h1 : r ∉ F) (h2 : bm ∉ F) : IsRf w' r bm f B low :=
  ⟨h.blk.keep k h1, h.map.keep k h2, h.good, h.ne⟩

theorem IsRf.lt {w : World} {r bm : Nat} {f : Int → Int} {B low : Int} (h : IsRf w r bm f B low) : r < w.heap.size ∧ bm < w.heap.size := ⟨h.blk.lt, h.map.lt⟩

theorem IsRf.cells {w : World} {r bm : Nat} {f : Int → Int} {B low : Int} (h : IsRf w r bm f B low) :
    w.cell? ⟨r, 0, none⟩ = some (.int .i64 B) ∧ w.cell? ⟨r, 1, none⟩ = some (.map (some bm)) ∧ w.cell? ⟨r, 2, none⟩ = some (.int .i64 low) ∧ w.frozen? ⟨r, 2, none⟩ = false :=
  ⟨h.blk.cell 0, h.blk.cell 1, h.blk.cell 2, h.blk.free 2⟩

/-- 'low' is set -/
theorem IsRf.setLow {w : World} {r bm : Nat} {f : Int → Int} {B low l : Int} (h : IsRf w r bm f B low) (h0 : 2 ≤ l) (h1 : l ≤ B) (hu : ∀ k, 2 ≤ k → k < l → f k ≠ 0) :
    IsRf (w.setCell ⟨r, 2, none⟩ (.int .i64 l)) r bm f B l :=
  ⟨h.blk.set 2 _, h.map.keep ((Keep.refl [r] w).setCell (Or.inl (by simp)) _) (by simp; exact fun e => h.ne e.symm), h.good.low h0 h1 hu, h.ne⟩

theorem Rf.mm (x : Int) : min (max x 2) 4294967296 = if x < 2 then 2 else if 4294967296 < x then 4294967296 else x := by
  split
  · omega
  · split <;> omega

/-- what New leaves -/
def NewOut (w w' : World) (B : Int) (e : Ending) : Prop :=
  ∃ r bm, e = .returned (.pointer (some ⟨r, 0, none⟩)) ∧ IsRf w' r bm (fun _ => 0) B 2 ∧ w.heap.size ≤ r ∧ w.heap.size ≤ bm ∧ Keep [] w w'

set_option maxRecDepth 100000 in
set_option maxHeartbeats 400000 in
theorem rnew_any (x : Int) (w : World) (h0 : -9223372036854775808 ≤ x) (h1 : x ≤ 9223372036854775807) (B : Int) (hB : B = min (max x 2) 4294967296) :
    Calls Try.prog 9 #[.int .i64 x] w fun e w' => NewOut w w' B e := by
  have hmm := @run_makeMap Try.prog
  have hg : 2 ≤ B ∧ B ≤ 4294967296 := by omega
  have G := Rf.Good.new hg.1 hg.2
  have E : IsRf ((w.alloc (.map #[] 0)).alloc (.cells #[.int .i64 B, .map (some w.heap.size), .int .i64 2] 53)) (w.heap.size + 1) w.heap.size (fun _ => 0) B 2 := by
    refine ⟨?_, (RMap.new w B (by omega) (by omega)).keep ((Keep.refl [] _).alloc _) (by simp), G, by omega⟩
    have := Blk.new' (w.alloc (.map #[] 0)) [.int .i64 B, .map (some w.heap.size), .int .i64 2] 53
    rwa [World.size_alloc] at this
  have HE := Lib.hid E
  have HB := Lib.hid hB
  clear E hB G hg
  go_enter Try.func9, Try.ntmps9
  go_wp2
  all_goals
    go_ret
    have hB := HB.out
    have he := HE.out
    first
      | (obtain rfl : B = 2 := by omega
         exact ⟨_, _, rfl, he, by omega, Nat.le_refl _, ((Keep.refl _ _).alloc _).alloc _⟩)
      | (obtain rfl : B = 4294967296 := by omega
         exact ⟨_, _, rfl, he, by omega, Nat.le_refl _, ((Keep.refl _ _).alloc _).alloc _⟩)
      | (obtain rfl : B = x := by omega
         exact ⟨_, _, rfl, he, by omega, Nat.le_refl _, ((Keep.refl _ _).alloc _).alloc _⟩)

set_option maxRecDepth 100000 in
set_option maxHeartbeats 400000 in
theorem rfree_any (r bm : Nat) (f : Int → Int) (B low : Int) (w : World) (h : IsRf w r bm f B low) :
    Calls Try.prog 12 #[.pointer (some ⟨r, 0, none⟩)] w fun e w' => e = .returned (.int .i64 (B - 2 - Rf.cntN f B.toNat)) ∧ Keep [] w w' := by
  obtain ⟨c0, c1, _, _⟩ := h.cells
  have hl := fun n ty => (h.map.keep ((Keep.refl [] w).drewN n) (by simp)).len ty
  have hc := h.map.cnt_lt
  have hb0 := h.good.b0
  have hb1 := h.good.b1
  have hw1 : IntKind.i64.wrap (B - 2) = B - 2 := IntWalk.i64_in _ (by omega)
  have hw2 : IntKind.i64.wrap (B - 2 - (Rf.cntN f B.toNat : Int)) = B - 2 - (Rf.cntN f B.toNat : Int) := IntWalk.i64_in _ (by omega)
  go_enter Try.func12, Try.ntmps12
  go_wp2
  go_quiet (fail)
  go_wp2
  go_ret
  exact ⟨rfl, (Keep.refl _ _).drewN _⟩

theorem rcount_any (r bm : Nat) (f : Int → Int) (B low k : Int) (w : World) (h : IsRf w r bm f B low) (h0 : -9223372036854775808 ≤ k) (h1 : k ≤ 9223372036854775807) :
    Calls Try.prog 14 #[.pointer (some ⟨r, 0, none⟩), .int .i64 k] w fun e w' => e = .returned (.int .i64 (f k)) ∧ w = w' := by
  obtain ⟨_, c1, _, _⟩ := h.cells
  have hl := h.map.look h0 h1
  go_enter Try.func14, Try.ntmps14
  go_wp2
  go_ret
  exact ⟨rfl, rfl⟩

/-- a count is turned; 'low' is not -/
theorem IsRf.counted {w w2 : World} {r bm : Nat} {f : Int → Int} {B low k v : Int} (h : IsRf w r bm f B low) (hm : RMap w2 bm (Rf.upd f k v) B) (k2 : Keep [bm] w w2) (h2 : 2 ≤ k) (hk : k < B) (hv : 0 < v) : IsRf w2 r bm (Rf.upd f k v) B low :=
  ⟨h.blk.keep k2 (by simp; exact h.ne), hm, h.good.set h2 hk hv, h.ne⟩

theorem IsRf.taken {w w2 : World} {r bm : Nat} {f : Int → Int} {B l : Int} (h : IsRf w r bm f B l) (hm : RMap w2 bm (Rf.upd f l 1) B) (k2 : Keep [bm] w w2) (hk : l < B) :
    IsRf (w2.setCell ⟨r, 2, none⟩ (.int .i64 (l + 1))) r bm (Rf.upd f l 1) B (l + 1) ∧ Keep [r, bm] w (w2.setCell ⟨r, 2, none⟩ (.int .i64 (l + 1))) := by
  have hl := h.good.l0
  refine ⟨(h.counted hm k2 hl hk (by omega)).setLow (by omega) (by omega) (fun k a b => ?_), (k2.mono (by simp)).setCell (Or.inl (by simp)) _⟩
  by_cases e : k = l
  · subst e; rw [Rf.upd_same]; omega
  · rw [Rf.upd_other e]; exact h.good.used k a (by omega)

/-- what Take leaves -/
def TakeOut (w w' : World) (r bm : Nat) (f : Int → Int) (B : Int) (e : Ending) : Prop :=
  Keep [r, bm] w w' ∧ ((∃ n low', 2 ≤ n ∧ n < B ∧ f n = 0 ∧ (∀ k, 2 ≤ k → k < n → f k ≠ 0) ∧ e = .returned (.tuple #[.int .i64 n, .bool true]) ∧ IsRf w' r bm (Rf.upd f n 1) B low') ∨
    ((∀ k, 2 ≤ k → k < B → f k ≠ 0) ∧ e = .returned (.tuple #[.int .i64 0, .bool false]) ∧ ∃ low', IsRf w' r bm f B low'))

set_option maxRecDepth 100000 in
set_option maxHeartbeats 400000 in
theorem rtake_any (r bm : Nat) (f : Int → Int) (B low : Int) (w : World) (h : IsRf w r bm f B low) :
    Calls Try.prog 10 #[.pointer (some ⟨r, 0, none⟩)] w fun e w' => TakeOut w w' r bm f B e := by
  go_enter Try.func10, Try.ntmps10
  go_wp2
  go_loopw [3] (fun _ wr => ∃ l, IsRf wr r bm f B l ∧ Keep [r] w wr) (fun _ wr => match wr.cell? ⟨r, 2, none⟩ with | some (.int _ l) => (B - l).toNat | _ => 0)
  case atStart => exact ⟨low, h, Keep.refl _ _⟩
  case round =>
    obtain ⟨l, R, K⟩ := hrel
    obtain ⟨c0, c1, c2, f2⟩ := R.cells
    have hl := R.map.look (k := l) (by have := R.good.l0; omega) (by have := R.good.l1; have := R.good.b1; omega)
    have hl0 := R.good.l0
    have hl1 := R.good.l1
    have hb1 := R.good.b1
    have hB1 : 2 ≤ B := R.good.b0
    have c2' := c2
    clear hl
    by_cases hlt : l < B
    · by_cases hz : f l = 0
      · have hzb : ((f l) == 0) = true := by simpa using hz
        have HZ := Lib.hid hz
        clear hz
        go_wp2
        go_quiet (fail)
        have Rq := R.keep ((Keep.refl [] wr).drewN nq) (by simp) (by simp)
        have Kq := K.drewN nq
        have hl := Rq.map.look (k := l) (by omega) (by omega)
        clear c0 c1 c2 f2 R K
        generalize wr.drewN nq = wq at *
        obtain ⟨c0, c1, c2, f2⟩ := Rq.cells
        go_wp2_with (first
          | (at_mapUpdate; refine wpList_rstore Rq.map rfl _ _ _ rfl rfl rfl rfl (by omega) hlt (by omega) (by omega) ?_; intro w2 hm2 k2; have B2 := Rq.blk.keep k2 (by simp; exact Rq.ne); have d2 := B2.cell 2; have g2 := B2.free 2; simp only [List.getElem?_cons_zero, List.getElem?_cons_succ] at d2))
        go_ret2
        obtain ⟨R2, K2⟩ := Rq.taken hm2 k2 hlt
        exact ⟨(Kq.mono (G := [r, bm]) (by simp)).trans K2 (by simp), Or.inl ⟨l, _, hl0, hlt, HZ.out, Rq.good.used, rfl, R2⟩⟩
      · have hzb : ((f l) == 0) = false := by rw [beq_eq_false_iff_ne]; exact hz
        have HZ := Lib.hid hz
        clear hz
        go_wp2
        go_quiet (fail)
        have Rq := R.keep ((Keep.refl [] wr).drewN nq) (by simp) (by simp)
        have Kq := K.drewN nq
        have hl := Rq.map.look (k := l) (by omega) (by omega)
        clear c0 c1 c2 f2 R K
        generalize wr.drewN nq = wq at *
        obtain ⟨c0, c1, c2, f2⟩ := Rq.cells
        have hne : ∀ k, 2 ≤ k → k < l + 1 → f k ≠ 0 := fun k a b => by
          by_cases e : k = l
          · rw [e]; exact HZ.out
          · exact Rq.good.used k a (by omega)
        have R2 := Rq.setLow (l := l + 1) (by omega) (by omega) hne
        have K2 : Keep [r] w (wq.setCell ⟨r, 2, none⟩ (.int .i64 (l + 1))) := Kq.setCell (Or.inl (by simp)) _
        have e2 := R2.cells.2.2.1
        have HH := Lib.hid (And.intro R2 K2)
        have HE := Lib.hid e2
        clear R2 K2 hne e2
        go_wp2
        go_roundw
        case rel => exact ⟨l + 1, HH.out.1, HH.out.2⟩
        case measure =>
          rw [HE.out, c2']
          simp
          omega
    · have h1 : l = B := by omega
      have HB := Lib.hid h1
      clear h1
      go_wp2
      go_quiet (fail)
      have Rq := R.keep ((Keep.refl [] wr).drewN nq) (by simp) (by simp)
      have Kq := K.drewN nq
      go_wp2_with fail
      go_ret2
      exact ⟨Kq.mono (by simp), Or.inr ⟨by rw [← HB.out]; exact Rq.good.used, rfl, _, Rq⟩⟩

end Go.Proofs.Ytlecdappgpbnlaa
