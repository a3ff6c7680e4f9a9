/-
  Package refs: Dec, Inc and Mark, each by 'on' and its closure. No condition but that the receiver is one that New made, or a later one.
-/
import Derived.Test.YtlecdappgpbnlaaRfA
import Derived.Shelf.Abstract
namespace Go.Proofs.Ytlecdappgpbnlaa
open Go.RowKit

/-- two boxes of a closure's own: the receiver's and the number's -/
structure Boxed (w : World) (a1 a2 r : Nat) (k : Int) : Prop where
  b1 : Blk w a1 [.pointer (some ⟨r, 0, none⟩)] 24
  b2 : Blk w a2 [.int .i64 k] 3

theorem Boxed.keep {F : List Nat} {w w' : World} {a1 a2 r : Nat} {k : Int} (h : Boxed w a1 a2 r k) (K : Keep F w w') (h1 : a1 ∉ F) (h2 : a2 ∉ F) : Boxed w' a1 a2 r k := ⟨h.b1.keep K h1, h.b2.keep K h2⟩
theorem Boxed.cells {w : World} {a1 a2 r : Nat} {k : Int} (h : Boxed w a1 a2 r k) : w.cell? ⟨a1, 0, none⟩ = some (.pointer (some ⟨r, 0, none⟩)) ∧ w.cell? ⟨a2, 0, none⟩ = some (.int .i64 k) := ⟨h.b1.cell 0, h.b2.cell 0⟩

set_option maxRecDepth 100000 in
set_option maxHeartbeats 400000 in
theorem rinc1_any (a1 a2 r bm : Nat) (f : Int → Int) (B low k c : Int) (w : World) (h : IsRf w r bm f B low) (hb : Boxed w a1 a2 r k) (h2 : 2 ≤ k) (hk : k < B) (hc0 : 0 ≤ c) (hc : c < 9223372036854775807) :
    Calls Try.prog 29 #[.int .i64 c, .pointer (some ⟨a1, 0, none⟩), .pointer (some ⟨a2, 0, none⟩)] w fun e w' => e = .returned (.bool true) ∧ IsRf w' r bm (Rf.upd f k (c + 1)) B low ∧ Keep [bm] w w' := by
  have hd := h.keep ((Keep.refl [] w).drew) (by simp) (by simp)
  have bd := hb.keep ((Keep.refl [] w).drew) (by simp) (by simp)
  have kd := (Keep.refl [] w).drew
  obtain ⟨_, c1, _, _⟩ := h.cells
  obtain ⟨p1, p2⟩ := hb.cells
  go_enter Try.func29, Try.ntmps29
  go_wp2
  (refine wp_region_quiet_tail 7 (by kernel_rfl) (by kernel_rfl) ?_; simp only [List.take_succ_cons, List.take_zero, List.drop_succ_cons, List.drop_zero]; (repeat (go_big_quiet_step (fail))); with_reducible refine wpQuiet_nil ?_)
  go_wp2_with (first
    | (at_mapUpdate; refine wpList_rstore hd.map rfl _ _ _ rfl rfl rfl rfl (by omega) hk (by omega) (by omega) ?_; intro w2 hm2 k2))
  go_ret
  exact ⟨rfl, hd.counted hm2 k2 h2 hk (by omega), (kd.mono (by simp)).trans k2 (by simp)⟩

set_option maxRecDepth 100000 in
set_option maxHeartbeats 400000 in
theorem rmark1_any (a1 a2 r bm : Nat) (f : Int → Int) (B low k c : Int) (w : World) (h : IsRf w r bm f B low) (hb : Boxed w a1 a2 r k) (h2 : 2 ≤ k) (hk : k < B) (hc0 : 0 ≤ c) (hc : c < 9223372036854775807) :
    Calls Try.prog 26 #[.int .i64 c, .pointer (some ⟨a1, 0, none⟩), .pointer (some ⟨a2, 0, none⟩)] w fun e w' => e = .returned (.bool (c == 0)) ∧ IsRf w' r bm (Rf.upd f k (c + 1)) B low ∧ Keep [bm] w w' := by
  have hd := h.keep ((Keep.refl [] w).drew) (by simp) (by simp)
  have bd := hb.keep ((Keep.refl [] w).drew) (by simp) (by simp)
  have kd := (Keep.refl [] w).drew
  obtain ⟨_, c1, _, _⟩ := h.cells
  obtain ⟨p1, p2⟩ := hb.cells
  go_enter Try.func26, Try.ntmps26
  go_wp2
  (refine wp_region_quiet_tail 7 (by kernel_rfl) (by kernel_rfl) ?_; simp only [List.take_succ_cons, List.take_zero, List.drop_succ_cons, List.drop_zero]; (repeat (go_big_quiet_step (fail))); with_reducible refine wpQuiet_nil ?_)
  go_wp2_with (first
    | (at_mapUpdate; refine wpList_rstore hd.map rfl _ _ _ rfl rfl rfl rfl (by omega) hk (by omega) (by omega) ?_; intro w2 hm2 k2))
  go_ret
  exact ⟨rfl, hd.counted hm2 k2 h2 hk (by omega), (kd.mono (by simp)).trans k2 (by simp)⟩

set_option maxRecDepth 100000 in
set_option maxHeartbeats 400000 in
theorem rdec1_more (a1 a2 r bm : Nat) (f : Int → Int) (B low k c : Int) (w : World) (h : IsRf w r bm f B low) (hb : Boxed w a1 a2 r k) (h2 : 2 ≤ k) (hk : k < B) (hc0 : 1 < c) (hc : c ≤ 9223372036854775807) :
    Calls Try.prog 25 #[.int .i64 c, .pointer (some ⟨a1, 0, none⟩), .pointer (some ⟨a2, 0, none⟩)] w fun e w' => e = .returned (.bool false) ∧ IsRf w' r bm (Rf.upd f k (c - 1)) B low ∧ Keep [bm] w w' := by
  have hd := h.keep ((Keep.refl [] w).drew) (by simp) (by simp)
  have bd := hb.keep ((Keep.refl [] w).drew) (by simp) (by simp)
  have kd := (Keep.refl [] w).drew
  obtain ⟨_, c1, _, _⟩ := h.cells
  obtain ⟨p1, p2⟩ := hb.cells
  go_enter Try.func25, Try.ntmps25
  go_wp2
  (refine wp_region_quiet_tail 7 (by kernel_rfl) (by kernel_rfl) ?_; simp only [List.take_succ_cons, List.take_zero, List.drop_succ_cons, List.drop_zero]; (repeat (go_big_quiet_step (fail))); with_reducible refine wpQuiet_nil ?_)
  go_wp2_with (first
    | (at_mapUpdate; refine wpList_rstore hd.map rfl _ _ _ rfl rfl rfl rfl (by omega) hk (by omega) (by omega) ?_; intro w2 hm2 k2))
  go_ret
  exact ⟨rfl, hd.counted hm2 k2 h2 hk (by omega), (kd.mono (by simp)).trans k2 (by simp)⟩

set_option maxRecDepth 100000 in
set_option maxHeartbeats 400000 in
theorem rdec1_last (a1 a2 r bm : Nat) (f : Int → Int) (B low k : Int) (w : World) (h : IsRf w r bm f B low) (hb : Boxed w a1 a2 r k) (h2 : 2 ≤ k) (hk : k < B) (n1 : a1 ≠ bm) (n2 : a2 ≠ bm) :
    Calls Try.prog 25 #[.int .i64 1, .pointer (some ⟨a1, 0, none⟩), .pointer (some ⟨a2, 0, none⟩)] w fun e w' => e = .returned (.bool true) ∧ (∃ low', IsRf w' r bm (Rf.upd f k 0) B low') ∧ Keep [r, bm] w w' := by
  have hd := h.keep ((Keep.refl [] w).drew) (by simp) (by simp)
  have bd := hb.keep ((Keep.refl [] w).drew) (by simp) (by simp)
  have kd := (Keep.refl [] w).drew
  obtain ⟨_, c1, _, _⟩ := h.cells
  obtain ⟨p1, p2⟩ := hb.cells
  go_enter Try.func25, Try.ntmps25
  go_wp2
  (refine wp_region_quiet_tail 5 (by kernel_rfl) (by kernel_rfl) ?_; simp only [List.take_succ_cons, List.take_zero, List.drop_succ_cons, List.drop_zero]; (repeat (go_big_quiet_step (fail))); with_reducible refine wpQuiet_nil ?_)
  go_wp2_with (first
    | (at_delete; refine wpList_rdrop hd.map rfl _ _ rfl rfl rfl (by omega) hk ?_; intro w2 hm2 k2; have B2 := hd.blk.keep k2 (by simp; exact h.ne); have d1 := B2.cell 1; have d2 := B2.cell 2; have g2 := B2.free 2; simp only [List.getElem?_cons_zero, List.getElem?_cons_succ] at d1 d2; obtain ⟨q1, q2⟩ := (bd.keep k2 (by simp; exact n1) (by simp; exact n2)).cells))
  have hg := h.good.zero h2 hk
  have hl0 := h.good.l0
  have hl1 := h.good.l1
  have hb1 := h.good.b1
  have HG := Lib.hid hg
  have kE : Keep [r, bm] w w2.drew := ((kd.mono (G := [r, bm]) (by simp)).trans k2 (by simp)).drew
  clear hg
  go_frame
  by_cases hlt : k < low
  all_goals
    (refine wp_region_quiet_tail 9 (by kernel_rfl) (by kernel_rfl) ?_; simp only [List.take_succ_cons, List.take_zero, List.drop_succ_cons, List.drop_zero]; (repeat (go_big_quiet_step (fail))); with_reducible refine wpQuiet_nil ?_)
    go_wp2
    go_ret
    have hg := HG.out
    first
      | rw [if_pos (by omega)] at hg
      | rw [if_neg (by omega)] at hg
    refine ⟨rfl, ⟨_, ?_, hm2.drew.keep ((Keep.refl [r] _).setCell (Or.inl (by simp)) _) (by simp; exact fun e => h.ne e.symm), hg, h.ne⟩, kE.setCell (Or.inl (by simp)) _⟩
    exact B2.drew.set 2 _

/-- the closure's boxes, laid in w -/
theorem boxes (w : World) (r : Nat) (k : Int) : Boxed ((w.alloc (.cells #[.pointer (some ⟨r, 0, none⟩)] 24)).alloc (.cells #[.int .i64 k] 3)) w.heap.size (w.heap.size + 1) r k := by
  refine ⟨(Blk.new' w [_] 24).alloc _, ?_⟩
  have := Blk.new' (w.alloc (.cells #[.pointer (some ⟨r, 0, none⟩)] 24)) [.int .i64 k] 3
  rwa [World.size_alloc] at this

set_option maxRecDepth 100000 in
set_option maxHeartbeats 800000 in
theorem ron_out (g : Value) (must : Bool) (r bm : Nat) (f : Int → Int) (B low k : Int) (w : World) (h : IsRf w r bm f B low) (hk : k < 2 ∨ B ≤ k) :
    Calls Try.prog 24 #[.pointer (some ⟨r, 0, none⟩), .int .i64 k, .bool must, g] w fun e w' => e = .returned (.tuple #[.bool false, .int .i64 1]) ∧ w = w' := by
  obtain ⟨c0, c1, _, _⟩ := h.cells
  by_cases h2 : k < 2
  · go_enter Try.func24, Try.ntmps24
    go_wp2
    go_ret2
    exact ⟨rfl, rfl⟩
  · have hB : B ≤ k := by omega
    go_enter Try.func24, Try.ntmps24
    go_wp2
    go_ret2
    exact ⟨rfl, rfl⟩

set_option maxRecDepth 100000 in
set_option maxHeartbeats 800000 in
theorem ron_state (g : Value) (r bm : Nat) (f : Int → Int) (B low k : Int) (w : World) (h : IsRf w r bm f B low) (h2 : 2 ≤ k) (hB : k < B) (hz : f k = 0) :
    Calls Try.prog 24 #[.pointer (some ⟨r, 0, none⟩), .int .i64 k, .bool true, g] w fun e w' => e = .returned (.tuple #[.bool false, .int .i64 13]) ∧ w = w' := by
  obtain ⟨c0, c1, _, _⟩ := h.cells
  have hb1 := h.good.b1
  have hl := h.map.look (k := k) (by omega) (by omega)
  have hzb : (f k == 0) = true := by simpa using hz
  clear hz
  go_enter Try.func24, Try.ntmps24
  go_wp2
  go_ret2
  exact ⟨rfl, rfl⟩

set_option maxRecDepth 100000 in
set_option maxHeartbeats 800000 in
theorem ron_do (g a1 a2 : Nat) (eg : ∀ args w, (callFunc g args).run Try.prog w = .ok (.enter g args) w) (b : Bool) (P : World → Prop) (must : Bool) (r bm : Nat) (f : Int → Int) (B low k : Int) (w : World) (h : IsRf w r bm f B low) (h2 : 2 ≤ k) (hB : k < B) (hz : must = true → f k ≠ 0)
    (hdo : Calls Try.prog g #[.int .i64 (f k), .pointer (some ⟨a1, 0, none⟩), .pointer (some ⟨a2, 0, none⟩)] w fun e w' => e = .returned (.bool b) ∧ P w') :
    Calls Try.prog 24 #[.pointer (some ⟨r, 0, none⟩), .int .i64 k, .bool must, .func (.func g) #[] #[.pointer (some ⟨a1, 0, none⟩), .pointer (some ⟨a2, 0, none⟩)]] w fun e w' => e = .returned (.tuple #[.bool b, .int .i64 0]) ∧ P w' := by
  obtain ⟨c0, c1, _, _⟩ := h.cells
  have hb1 := h.good.b1
  have hl := h.map.look (k := k) (by omega) (by omega)
  have HD := Lib.hid hdo
  clear hdo
  cases must with
  | true =>
    have hzb : (f k == 0) = false := by rw [beq_eq_false_iff_ne]; exact hz rfl
    clear hz
    go_enter Try.func24, Try.ntmps24
    go_wp2_with fail
    refine HD.out.mono ?_
    rintro e w' ⟨rfl, hp⟩
    go_wp2
    go_ret2
    exact ⟨rfl, hp⟩
  | false =>
    clear hz
    go_enter Try.func24, Try.ntmps24
    go_wp2_with fail
    refine HD.out.mono ?_
    rintro e w' ⟨rfl, hp⟩
    go_wp2
    go_ret2
    exact ⟨rfl, hp⟩

/-- what Dec leaves -/
def DecOut (w w' : World) (r bm : Nat) (f : Int → Int) (B k : Int) (e : Ending) : Prop :=
  Keep [r, bm] w w' ∧ ∃ low', (k < 2 ∨ B ≤ k → e = .returned (.tuple #[.bool false, .int .i64 1]) ∧ IsRf w' r bm f B low') ∧
    (2 ≤ k → k < B → f k = 0 → e = .returned (.tuple #[.bool false, .int .i64 13]) ∧ IsRf w' r bm f B low') ∧
    (2 ≤ k → k < B → f k ≠ 0 → e = .returned (.tuple #[.bool (f k == 1), .int .i64 0]) ∧ IsRf w' r bm (Rf.upd f k (f k - 1)) B low')

theorem DecOut.out {w w' : World} {r bm : Nat} {f : Int → Int} {B k low' : Int} {e : Ending} (K : Keep [r, bm] w w') (hk : k < 2 ∨ B ≤ k) (he : e = .returned (.tuple #[.bool false, .int .i64 1])) (h : IsRf w' r bm f B low') : DecOut w w' r bm f B k e :=
  ⟨K, low', fun _ => ⟨he, h⟩, fun a b => by omega, fun a b => by omega⟩
theorem DecOut.state {w w' : World} {r bm : Nat} {f : Int → Int} {B k low' : Int} {e : Ending} (K : Keep [r, bm] w w') (h2 : 2 ≤ k) (hB : k < B) (hz : f k = 0) (he : e = .returned (.tuple #[.bool false, .int .i64 13])) (h : IsRf w' r bm f B low') : DecOut w w' r bm f B k e :=
  ⟨K, low', fun a => by omega, fun _ _ _ => ⟨he, h⟩, fun _ _ c => absurd hz c⟩
theorem DecOut.ok {w w' : World} {r bm : Nat} {f : Int → Int} {B k low' : Int} {e : Ending} (K : Keep [r, bm] w w') (h2 : 2 ≤ k) (hB : k < B) (hz : f k ≠ 0) (he : e = .returned (.tuple #[.bool (f k == 1), .int .i64 0])) (h : IsRf w' r bm (Rf.upd f k (f k - 1)) B low') : DecOut w w' r bm f B k e :=
  ⟨K, low', fun a => by omega, fun _ _ c => absurd c hz, fun _ _ _ => ⟨he, h⟩⟩

set_option maxRecDepth 100000 in
set_option maxHeartbeats 800000 in
theorem rdec_any (r bm : Nat) (f : Int → Int) (B low k : Int) (w : World) (h : IsRf w r bm f B low) (hf : f k ≤ 9223372036854775807) :
    Calls Try.prog 11 #[.pointer (some ⟨r, 0, none⟩), .int .i64 k] w fun e w' => DecOut w w' r bm f B k e := by
  obtain ⟨hr, hbm⟩ := h.lt
  have kW : Keep [] w ((w.alloc (.cells #[.pointer (some ⟨r, 0, none⟩)] 24)).alloc (.cells #[.int .i64 k] 3)) := ((Keep.refl _ _).alloc _).alloc _
  have hW := h.keep kW (by simp) (by simp)
  have bW := boxes w r k
  by_cases hin : 2 ≤ k ∧ k < B
  · obtain ⟨h2, hB⟩ := hin
    by_cases hz : f k = 0
    · have HZ := Lib.hid hz
      clear hz
      go_enter Try.func11, Try.ntmps11
      go_wp2_with fail
      refine (ron_state _ r bm f B low k _ hW h2 hB HZ.out).mono ?_
      rintro e w' ⟨rfl, rfl⟩
      go_wp2
      go_ret2
      exact DecOut.state (kW.mono (by simp)) h2 hB HZ.out rfl hW
    · have hp := h.good.pos k
      have HZ := Lib.hid hz
      clear hz
      by_cases h1 : f k = 1
      · have HD := Lib.hid (rdec1_last w.heap.size (w.heap.size + 1) r bm f B low k _ hW bW h2 hB (by omega) (by omega))
        have H1 := Lib.hid h1
        clear h1
        go_enter Try.func11, Try.ntmps11
        go_wp2_with fail
        refine (ron_do 25 _ _ (enters_of Try.func25 (by kernel_rfl) rfl) true _ true r bm f B low k _ hW h2 hB (fun _ => HZ.out) (by rw [H1.out]; exact HD.out)).mono ?_
        rintro e w' ⟨rfl, ⟨low', hR⟩, hK⟩
        go_wp2
        go_ret2
        refine DecOut.ok ((kW.mono (G := [r, bm]) (by simp)).trans hK (by simp)) h2 hB HZ.out (show Ending.returned (.tuple #[.bool true, .int .i64 0]) = _ by rw [H1.out]; rfl) (by rw [H1.out]; exact hR)
      · have HD := Lib.hid (rdec1_more w.heap.size (w.heap.size + 1) r bm f B low k (f k) _ hW bW h2 hB (by have := HZ.out; omega) hf)
        have hb1 : (f k == 1) = false := by rw [beq_eq_false_iff_ne]; exact h1
        have H1 := Lib.hid hb1
        clear h1 hb1
        go_enter Try.func11, Try.ntmps11
        go_wp2_with fail
        refine (ron_do 25 _ _ (enters_of Try.func25 (by kernel_rfl) rfl) false _ true r bm f B low k _ hW h2 hB (fun _ => HZ.out) HD.out).mono ?_
        rintro e w' ⟨rfl, hR, hK⟩
        go_wp2
        go_ret2
        refine DecOut.ok ((kW.mono (G := [r, bm]) (by simp)).trans hK (by simp)) h2 hB HZ.out (show Ending.returned (.tuple #[.bool false, .int .i64 0]) = _ by rw [H1.out]) hR
  · have hk : k < 2 ∨ B ≤ k := by omega
    have HK := Lib.hid hk
    clear hk hin
    go_enter Try.func11, Try.ntmps11
    go_wp2_with fail
    refine (ron_out _ true r bm f B low k _ hW HK.out).mono ?_
    rintro e w' ⟨rfl, rfl⟩
    go_wp2
    go_ret2
    exact DecOut.out (kW.mono (by simp)) HK.out rfl hW

/-- what Mark leaves -/
def MarkOut (w w' : World) (r bm : Nat) (f : Int → Int) (B k : Int) (e : Ending) : Prop :=
  Keep [r, bm] w w' ∧ ∃ low', (k < 2 ∨ B ≤ k → e = .returned (.tuple #[.bool false, .int .i64 1]) ∧ IsRf w' r bm f B low') ∧
    (2 ≤ k → k < B → e = .returned (.tuple #[.bool (f k == 0), .int .i64 0]) ∧ IsRf w' r bm (Rf.upd f k (f k + 1)) B low')

set_option maxRecDepth 100000 in
set_option maxHeartbeats 800000 in
theorem rmark_any (r bm : Nat) (f : Int → Int) (B low k : Int) (w : World) (h : IsRf w r bm f B low) (hf : f k < 9223372036854775807) :
    Calls Try.prog 13 #[.pointer (some ⟨r, 0, none⟩), .int .i64 k] w fun e w' => MarkOut w w' r bm f B k e := by
  obtain ⟨hr, hbm⟩ := h.lt
  have kW : Keep [] w ((w.alloc (.cells #[.pointer (some ⟨r, 0, none⟩)] 24)).alloc (.cells #[.int .i64 k] 3)) := ((Keep.refl _ _).alloc _).alloc _
  have hW := h.keep kW (by simp) (by simp)
  have bW := boxes w r k
  by_cases hin : 2 ≤ k ∧ k < B
  · obtain ⟨h2, hB⟩ := hin
    have hp := h.good.pos k
    have HD := Lib.hid (rmark1_any w.heap.size (w.heap.size + 1) r bm f B low k (f k) _ hW bW h2 hB hp hf)
    go_enter Try.func13, Try.ntmps13
    go_wp2_with fail
    refine (ron_do 26 _ _ (enters_of Try.func26 (by kernel_rfl) rfl) (f k == 0) _ false r bm f B low k _ hW h2 hB (fun h => by cases h) HD.out).mono ?_
    rintro e w' ⟨rfl, hR, hK⟩
    go_wp2
    go_ret2
    exact ⟨(kW.mono (G := [r, bm]) (by simp)).trans (hK.mono (G := [r, bm]) (by simp)) (by simp), low, fun a => by omega, fun _ _ => ⟨rfl, hR⟩⟩
  · have hk : k < 2 ∨ B ≤ k := by omega
    have HK := Lib.hid hk
    clear hk hin
    go_enter Try.func13, Try.ntmps13
    go_wp2_with fail
    refine (ron_out _ false r bm f B low k _ hW HK.out).mono ?_
    rintro e w' ⟨rfl, rfl⟩
    go_wp2
    go_ret2
    exact ⟨kW.mono (by simp), low, fun _ => ⟨rfl, hW⟩, fun a b => by have := HK.out; omega⟩

/-- what Inc leaves -/
def IncOut (w w' : World) (r bm : Nat) (f : Int → Int) (B k : Int) (e : Ending) : Prop :=
  Keep [r, bm] w w' ∧ ∃ low', (k < 2 ∨ B ≤ k → e = .returned (.int .i64 1) ∧ IsRf w' r bm f B low') ∧
    (2 ≤ k → k < B → f k = 0 → e = .returned (.int .i64 13) ∧ IsRf w' r bm f B low') ∧
    (2 ≤ k → k < B → f k ≠ 0 → e = .returned (.int .i64 0) ∧ IsRf w' r bm (Rf.upd f k (f k + 1)) B low')

set_option maxRecDepth 100000 in
set_option maxHeartbeats 800000 in
theorem rinc_any (r bm : Nat) (f : Int → Int) (B low k : Int) (w : World) (h : IsRf w r bm f B low) (hf : f k < 9223372036854775807) :
    Calls Try.prog 16 #[.pointer (some ⟨r, 0, none⟩), .int .i64 k] w fun e w' => IncOut w w' r bm f B k e := by
  obtain ⟨hr, hbm⟩ := h.lt
  have kW : Keep [] w ((w.alloc (.cells #[.pointer (some ⟨r, 0, none⟩)] 24)).alloc (.cells #[.int .i64 k] 3)) := ((Keep.refl _ _).alloc _).alloc _
  have hW := h.keep kW (by simp) (by simp)
  have bW := boxes w r k
  by_cases hin : 2 ≤ k ∧ k < B
  · obtain ⟨h2, hB⟩ := hin
    by_cases hz : f k = 0
    · have HZ := Lib.hid hz
      clear hz
      go_enter Try.func16, Try.ntmps16
      go_wp2_with fail
      refine (ron_state _ r bm f B low k _ hW h2 hB HZ.out).mono ?_
      rintro e w' ⟨rfl, rfl⟩
      go_wp2
      go_ret
      exact ⟨kW.mono (by simp), low, fun a => by omega, fun _ _ _ => ⟨rfl, hW⟩, fun _ _ c => absurd HZ.out c⟩
    · have hp := h.good.pos k
      have HZ := Lib.hid hz
      clear hz
      have HD := Lib.hid (rinc1_any w.heap.size (w.heap.size + 1) r bm f B low k (f k) _ hW bW h2 hB hp hf)
      go_enter Try.func16, Try.ntmps16
      go_wp2_with fail
      refine (ron_do 29 _ _ (enters_of Try.func29 (by kernel_rfl) rfl) true _ true r bm f B low k _ hW h2 hB (fun _ => HZ.out) HD.out).mono ?_
      rintro e w' ⟨rfl, hR, hK⟩
      go_wp2
      go_ret
      exact ⟨(kW.mono (G := [r, bm]) (by simp)).trans (hK.mono (G := [r, bm]) (by simp)) (by simp), low, fun a => by omega, fun _ _ c => absurd c HZ.out, fun _ _ _ => ⟨rfl, hR⟩⟩
  · have hk : k < 2 ∨ B ≤ k := by omega
    have HK := Lib.hid hk
    clear hk hin
    go_enter Try.func16, Try.ntmps16
    go_wp2_with fail
    refine (ron_out _ true r bm f B low k _ hW HK.out).mono ?_
    rintro e w' ⟨rfl, rfl⟩
    go_wp2
    go_ret
    exact ⟨kW.mono (by simp), low, fun _ => ⟨rfl, hW⟩, fun a b => by have := HK.out; omega, fun a b => by have := HK.out; omega⟩

end Go.Proofs.Ytlecdappgpbnlaa
