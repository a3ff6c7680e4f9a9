/-
  Layer 4's document: Choose: the one of two places that counts. No condition but that the texts are not too long.
-/
import Derived.Test.YteogkgjajhdhjaaSuperX
import Derived.Test.YteogkgjajhdhjaaSuperL
namespace Go.Proofs.Yteogkgjajhdhjaa
open Go.RowKit

/-- which of two counts, as the document says it -/
theorem chose2 {la lb : List UInt8} {x y : Sp.Su} {ec ed : Int} {one two : Bool} (hx : x = ofS la) (hy : y = ofS lb) (hec : ec = ofE la) (hed : ed = ofE lb) (h1 : one = ((ec == 0) && (x.gen % 2 == 0))) (h2 : two = ((ed == 0) && (y.gen % 2 == 1))) :
    (one = true → (two = false ∨ y.gen < x.gen) → chooseS la lb = x ∧ chooseE la lb = 0) ∧ (two = true → (one = false ∨ x.gen ≤ y.gen) → chooseS la lb = y ∧ chooseE la lb = 0) ∧ (one = false → two = false → chooseS la lb = ⟨0, 0, 0, 0, []⟩ ∧ chooseE la lb = 12) := by
  have na : ∀ l, ofE l = 0 → 1 ≤ (ofS l).gen := fun l h => by
    unfold ofE at h
    cases ho : Sp.of l with
    | none => rw [ho] at h; exact absurd h (by decide)
    | some s =>
      have b := Sp.right_bd (of_right ho)
      rw [(ofS_some ho).1]
      have := b.g0
      omega
  have i1 : one = true ↔ ofE la = 0 ∧ (ofS la).gen % 2 = 0 := by rw [h1, hec, hx]; simp
  have i2 : two = true ↔ ofE lb = 0 ∧ (ofS lb).gen % 2 = 1 := by rw [h2, hed, hy]; simp
  have y1 : one = true → bestOf ⟨0, 0, 0, 0, []⟩ 0 la = ofS la := fun h => bestOf_yes (i1.1 h).1 (i1.1 h).2 (by have := na la (i1.1 h).1; show (0 : Int) < _; omega)
  have n1 : one = false → bestOf ⟨0, 0, 0, 0, []⟩ 0 la = ⟨0, 0, 0, 0, []⟩ := fun h => bestOf_no (fun a1 a2 _ => by rw [i1.2 ⟨a1, a2⟩] at h; cases h)
  subst hx hy
  refine ⟨fun o h => ?_, fun o h => ?_, fun o h => ?_⟩
  · have e : chooseS la lb = ofS la := by
      rw [chooseS_eq, y1 o]
      refine bestOf_no (fun a1 a2 a3 => ?_)
      rcases h with h | h
      · rw [i2.2 ⟨a1, a2⟩] at h; cases h
      · omega
    exact ⟨e, chooseE_pos e (by have := na la (i1.1 o).1; omega)⟩
  · have e : chooseS la lb = ofS lb := by
      rw [chooseS_eq]
      have ob := i2.1 o
      have nb := na lb ob.1
      cases ho : one with
      | false => rw [n1 ho]; exact bestOf_yes ob.1 ob.2 (by show (0 : Int) < _; omega)
      | true =>
        rw [y1 ho]
        have oa := i1.1 ho
        refine bestOf_yes ob.1 ob.2 ?_
        rcases h with h | h
        · rw [ho] at h; cases h
        · omega
    exact ⟨e, chooseE_pos e (by have := na lb (i2.1 o).1; omega)⟩
  · have e : chooseS la lb = ⟨0, 0, 0, 0, []⟩ := by
      rw [chooseS_eq, n1 o]
      exact bestOf_no (fun a1 a2 _ => by rw [i2.2 ⟨a1, a2⟩] at h; cases h)
    exact ⟨e, by unfold chooseE; rw [e]; rfl⟩

set_option maxRecDepth 100000 in
set_option maxHeartbeats 16000000 in
theorem kchoose_any (la lb : List UInt8) (w : World) (hla : la.length ≤ 100000) (hlb : lb.length ≤ 100000) : Calls Try.prog 61 #[.string (txt la), .string (txt lb)] w (ChooseOut la lb w) := by
  go_enter Try.func61, Try.ntmps61
  go_wp2_with fail
  refine (kof_any la _ hla).mono ?_
  rintro e w1 ⟨vx, rfl, ⟨ao, c, rfl, rd1, le1, fp1⟩, k1⟩
  have gx := ofS_gen la
  obtain ⟨x, hx⟩ : ∃ x, x = ofS la := ⟨_, rfl⟩
  obtain ⟨ec, hec⟩ : ∃ x, x = ofE la := ⟨_, rfl⟩
  rw [← hx] at rd1 le1 fp1 gx ⊢
  rw [← hec]
  have HX := Lib.hid hx
  have HEC := Lib.hid hec
  clear hx hec
  go_wp2_with fail
  refine (kof_any lb _ hlb).mono ?_
  rintro e w2 ⟨vy, rfl, ⟨bo, d, rfl, rd2, le2, fp2⟩, k2⟩
  have gy := ofS_gen lb
  obtain ⟨y, hy⟩ : ∃ x, x = ofS lb := ⟨_, rfl⟩
  obtain ⟨ed, hed⟩ : ∃ x, x = ofE lb := ⟨_, rfl⟩
  rw [← hy] at rd2 le2 fp2 gy ⊢
  rw [← hed]
  have HY := Lib.hid hy
  have HED := Lib.hid hed
  clear hy hed
  go_upto_region 3 with fail
  obtain ⟨w3, hw3⟩ : ∃ W, W = w2.alloc (.cells #[.int .i64 y.gen, .int .i64 y.root, .int .i64 y.next, .int .i64 y.commit, .slice bo y.snaps.length d] 59) := ⟨_, rfl⟩
  obtain ⟨b4, hb4⟩ : ∃ b, b = w.heap.size := ⟨_, rfl⟩
  obtain ⟨b6, hb6⟩ : ∃ b, b = w1.heap.size := ⟨_, rfl⟩
  obtain ⟨b8, hb8⟩ : ∃ b, b = w2.heap.size := ⟨_, rfl⟩
  have k3 : Keep [] w2 w3 := by rw [hw3]; exact (Keep.refl _ _).alloc _
  have kx : Keep [] w1 w2 := ((Keep.refl [] _).alloc _).trans k2 (by simp)
  have k0 : Keep [] w w1 := ((Keep.refl [] _).alloc _).trans k1 (by simp)
  have B4 : Blk w3 b4 [.int .i64 0, .int .i64 0, .int .i64 0, .int .i64 0, .slice none 0 0] 59 := by
    rw [hb4]
    exact ((Blk.new' w [.int .i64 0, .int .i64 0, .int .i64 0, .int .i64 0, .slice none 0 0] 59).keep k1 (by simp)).keep (kx.trans k3 (by simp)) (by simp)
  have B6 : Blk w3 b6 [.int .i64 x.gen, .int .i64 x.root, .int .i64 x.next, .int .i64 x.commit, .slice ao x.snaps.length c] 59 := by
    rw [hb6]
    exact ((Blk.new' w1 [.int .i64 x.gen, .int .i64 x.root, .int .i64 x.next, .int .i64 x.commit, .slice ao x.snaps.length c] 59).keep k2 (by simp)).keep k3 (by simp)
  have B8 : Blk w3 b8 [.int .i64 y.gen, .int .i64 y.root, .int .i64 y.next, .int .i64 y.commit, .slice bo y.snaps.length d] 59 := by
    rw [hb8, hw3]
    exact Blk.new' w2 _ _
  have k13 : Keep [] w1 w3 := kx.trans k3 (by simp)
  have K : Keep [] w w3 := k0.trans k13 (by simp)
  have h4w : w.heap.size ≤ b4 := by omega
  have fx : SuN (w.heap.size + 1) w3 (.agg #[.int .i64 x.gen, .int .i64 x.root, .int .i64 x.next, .int .i64 x.commit, .slice ao x.snaps.length c]) x := (SuN.of rd1 le1 (fun z hz => by have := fp1 z hz; rw [World.size_alloc] at this; omega)).keep k13 (by simp)
  have fy : SuN (w.heap.size + 1) w3 (.agg #[.int .i64 y.gen, .int .i64 y.root, .int .i64 y.next, .int .i64 y.commit, .slice bo y.snaps.length d]) y := (SuN.of rd2 le2 (fun z hz => by have := fp2 z hz; have h1 := k0.size; rw [World.size_alloc] at this; omega)).keep k3 (by simp)
  have hb64 : b4 < b6 := by rw [hb4, hb6]; have := k1.size; rw [World.size_alloc] at this; omega
  have hb86 : b6 < b8 := by rw [hb6, hb8]; have := k2.size; rw [World.size_alloc] at this; omega
  rw [← hw3, ← hb4, ← hb6, ← hb8]
  have HB := Lib.hid (And.intro hb4 (And.intro hb64 hb86))
  clear hw3 hb4 hb6 hb8 k1 k2 k3 kx k0 k13 rd1 rd2 le1 le2 fp1 fp2 hb64 hb86
  have q0 := B6.cell 0
  have z0 := B8.cell 0
  simp only [List.getElem?_cons_zero] at q0 z0
  obtain ⟨one, hone⟩ : ∃ b, b = ((ec == 0) && (x.gen % 2 == 0)) := ⟨_, rfl⟩
  obtain ⟨two, htwo⟩ : ∃ b, b = ((ed == 0) && (y.gen % 2 == 1)) := ⟨_, rfl⟩
  go_cut [10] (fun s10 wx => s10 = .bool one ∧ wx = w3)
  case first =>
    cases h1 : (ec == 0) with
    | false =>
      go_wp2
      go_meet
      case rel => exact ⟨by rw [hone, h1]; rfl, rfl⟩
    | true =>
      cases h2 : (x.gen % 2 == 0) with
      | false =>
        go_wp2
        go_meet
        case rel => exact ⟨by rw [hone, h1, h2]; rfl, rfl⟩
      | true =>
        go_wp2
        go_meet
        case rel => exact ⟨by rw [hone, h1, h2]; rfl, rfl⟩
  case rest =>
    obtain ⟨rfl, rfl⟩ := hcut
    have HONE := Lib.hid hone
    clear hone
    go_upto_region 4 with fail
    go_cut [11] (fun s11 wx => s11 = .bool two ∧ wx = wc)
    case first =>
      cases h1 : (ed == 0) with
      | false =>
        go_wp2
        go_meet
        case rel => exact ⟨by rw [htwo, h1]; rfl, rfl⟩
      | true =>
        cases h2 : (y.gen % 2 == 1) with
        | false =>
          go_wp2
          go_meet
          case rel => exact ⟨by rw [htwo, h1, h2]; rfl, rfl⟩
        | true =>
          go_wp2
          go_meet
          case rel => exact ⟨by rw [htwo, h1, h2]; rfl, rfl⟩
    case rest =>
      obtain ⟨rfl, rfl⟩ := hcut
      have CH := Lib.hid (chose2 (x := x) (y := y) HX.out HY.out HEC.out HED.out HONE.out htwo)
      clear htwo z0 q0
      have q0 := B6.cell 0
      have q1 := B6.cell 1
      have q2 := B6.cell 2
      have q3 := B6.cell 3
      have q4 := B6.cell 4
      have z0 := B8.cell 0
      have z1 := B8.cell 1
      have z2 := B8.cell 2
      have z3 := B8.cell 3
      have z4 := B8.cell 4
      simp only [List.getElem?_cons_zero, List.getElem?_cons_succ] at q0 q1 q2 q3 q4 z0 z1 z2 z3 z4
      have p0 := B4.cell 0
      have p1 := B4.cell 1
      have p2 := B4.cell 2
      have p3 := B4.cell 3
      have p4 := B4.cell 4
      simp only [List.getElem?_cons_zero, List.getElem?_cons_succ] at p0 p1 p2 p3 p4
      have f0 := B4.free 0
      have f1 := B4.free 1
      have f2 := B4.free 2
      have f3 := B4.free 3
      have f4 := B4.free 4
      have R0 : ∀ x0, (wc.setCell ⟨b4, 0, none⟩ x0).cell? ⟨b4, 0, none⟩ = some x0 := fun x0 => (B4.set 0 x0).cell 0
      have R1 : ∀ x0 x1, ((wc.setCell ⟨b4, 0, none⟩ x0).setCell ⟨b4, 1, none⟩ x1).cell? ⟨b4, 1, none⟩ = some x1 := fun x0 x1 => ((B4.set 0 x0).set 1 x1).cell 1
      have R2 : ∀ x0 x1 x2, (((wc.setCell ⟨b4, 0, none⟩ x0).setCell ⟨b4, 1, none⟩ x1).setCell ⟨b4, 2, none⟩ x2).cell? ⟨b4, 2, none⟩ = some x2 := fun x0 x1 x2 => (((B4.set 0 x0).set 1 x1).set 2 x2).cell 2
      have R3 : ∀ x0 x1 x2 x3, ((((wc.setCell ⟨b4, 0, none⟩ x0).setCell ⟨b4, 1, none⟩ x1).setCell ⟨b4, 2, none⟩ x2).setCell ⟨b4, 3, none⟩ x3).cell? ⟨b4, 3, none⟩ = some x3 := fun x0 x1 x2 x3 => ((((B4.set 0 x0).set 1 x1).set 2 x2).set 3 x3).cell 3
      have R4 : ∀ x0 x1 x2 x3 x4, (((((wc.setCell ⟨b4, 0, none⟩ x0).setCell ⟨b4, 1, none⟩ x1).setCell ⟨b4, 2, none⟩ x2).setCell ⟨b4, 3, none⟩ x3).setCell ⟨b4, 4, none⟩ x4).cell? ⟨b4, 4, none⟩ = some x4 := fun x0 x1 x2 x3 x4 => (((((B4.set 0 x0).set 1 x1).set 2 x2).set 3 x3).set 4 x4).cell 4
      have KF : ∀ x0 x1 x2 x3 x4, Keep [] w (((((wc.setCell ⟨b4, 0, none⟩ x0).setCell ⟨b4, 1, none⟩ x1).setCell ⟨b4, 2, none⟩ x2).setCell ⟨b4, 3, none⟩ x3).setCell ⟨b4, 4, none⟩ x4) := fun x0 x1 x2 x3 x4 =>
        ((((K.setCell (Or.inr h4w) _).setCell (Or.inr h4w) _).setCell (Or.inr h4w) _).setCell (Or.inr h4w) _).setCell (Or.inr h4w) _
      have FX : ∀ x0 x1 x2 x3 x4, SuN w.heap.size (((((wc.setCell ⟨b4, 0, none⟩ x0).setCell ⟨b4, 1, none⟩ x1).setCell ⟨b4, 2, none⟩ x2).setCell ⟨b4, 3, none⟩ x3).setCell ⟨b4, 4, none⟩ x4) (.agg #[.int .i64 x.gen, .int .i64 x.root, .int .i64 x.next, .int .i64 x.commit, .slice ao x.snaps.length c]) x := fun x0 x1 x2 x3 x4 =>
        (fx.keep (set5k wc b4 x0 x1 x2 x3 x4) (by have := HB.out; simp; omega)).mono (by omega)
      have FY : ∀ x0 x1 x2 x3 x4, SuN w.heap.size (((((wc.setCell ⟨b4, 0, none⟩ x0).setCell ⟨b4, 1, none⟩ x1).setCell ⟨b4, 2, none⟩ x2).setCell ⟨b4, 3, none⟩ x3).setCell ⟨b4, 4, none⟩ x4) (.agg #[.int .i64 y.gen, .int .i64 y.root, .int .i64 y.next, .int .i64 y.commit, .slice bo y.snaps.length d]) y := fun x0 x1 x2 x3 x4 =>
        (fy.keep (set5k wc b4 x0 x1 x2 x3 x4) (by have := HB.out; simp; omega)).mono (by omega)
      cases one with
      | true =>
        cases two with
        | false =>
          obtain ⟨cs, ce⟩ := CH.out.1 rfl (Or.inl rfl)
          have CS := Lib.hid cs
          have CE := Lib.hid ce
          clear cs ce
          go_wp2
          refine bodyPost_ret (v := .tuple #[.agg #[.int .i64 x.gen, .int .i64 x.root, .int .i64 x.next, .int .i64 x.commit, .slice ao x.snaps.length c], .int .i64 0]) ?_ rfl ?_
          · simp [results, Try.results61, go_sem, R0, R1, R2, R3, R4]
          · unfold ChooseOut
            rw [CS.out, CE.out]
            exact ⟨_, rfl, FX _ _ _ _ _, KF _ _ _ _ _⟩
        | true =>
          by_cases hg : y.gen < x.gen
          · obtain ⟨cs, ce⟩ := CH.out.1 rfl (Or.inr hg)
            have CS := Lib.hid cs
            have CE := Lib.hid ce
            clear cs ce
            go_wp2
            refine bodyPost_ret (v := .tuple #[.agg #[.int .i64 x.gen, .int .i64 x.root, .int .i64 x.next, .int .i64 x.commit, .slice ao x.snaps.length c], .int .i64 0]) ?_ rfl ?_
            · simp [results, Try.results61, go_sem, R0, R1, R2, R3, R4]
            · unfold ChooseOut
              rw [CS.out, CE.out]
              exact ⟨_, rfl, FX _ _ _ _ _, KF _ _ _ _ _⟩
          · obtain ⟨cs, ce⟩ := CH.out.2.1 rfl (Or.inr (by omega))
            have CS := Lib.hid cs
            have CE := Lib.hid ce
            clear cs ce
            have hg' : x.gen ≤ y.gen := by omega
            go_wp2
            refine bodyPost_ret (v := .tuple #[.agg #[.int .i64 y.gen, .int .i64 y.root, .int .i64 y.next, .int .i64 y.commit, .slice bo y.snaps.length d], .int .i64 0]) ?_ rfl ?_
            · simp [results, Try.results61, go_sem, R0, R1, R2, R3, R4]
            · unfold ChooseOut
              rw [CS.out, CE.out]
              exact ⟨_, rfl, FY _ _ _ _ _, KF _ _ _ _ _⟩
      | false =>
        cases two with
        | true =>
          obtain ⟨cs, ce⟩ := CH.out.2.1 rfl (Or.inl rfl)
          have CS := Lib.hid cs
          have CE := Lib.hid ce
          clear cs ce
          go_wp2
          refine bodyPost_ret (v := .tuple #[.agg #[.int .i64 y.gen, .int .i64 y.root, .int .i64 y.next, .int .i64 y.commit, .slice bo y.snaps.length d], .int .i64 0]) ?_ rfl ?_
          · simp [results, Try.results61, go_sem, R0, R1, R2, R3, R4]
          · unfold ChooseOut
            rw [CS.out, CE.out]
            exact ⟨_, rfl, FY _ _ _ _ _, KF _ _ _ _ _⟩
        | false =>
          obtain ⟨cs, ce⟩ := CH.out.2.2 rfl rfl
          have CS := Lib.hid cs
          have CE := Lib.hid ce
          clear cs ce
          go_wp2
          refine bodyPost_ret (v := .tuple #[.agg #[.int .i64 0, .int .i64 0, .int .i64 0, .int .i64 0, .slice none 0 0], .int .i64 12]) ?_ rfl ?_
          · simp [results, Try.results61, go_sem, R0, R1, R2, R3, R4]
          · unfold ChooseOut
            rw [CS.out, CE.out]
            exact ⟨_, rfl, SuN.zero _ _, KF _ _ _ _ _⟩
end Go.Proofs.Yteogkgjajhdhjaa
