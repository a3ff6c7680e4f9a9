/-
  RefsPlays: each call does what the document says; one that was cloned goes on by itself: the law returns true, for any number of blocks and any steps. No condition.
-/
import Derived.Test.YtlecdappgpbnlaaRfN
namespace Go.Proofs.Ytlecdappgpbnlaa
open Go.RowKit

/-- what lies where while the law's loop runs: refs r (bm) and o (om), the document's p (vp) and q (vq) -/
structure Plays (w0 : World) (w : World) (r bm p o om q : Nat) (vp vq : Value) (f g : Int → Int) (B lr lo : Int) : Prop where
  R : IsRf w r bm f B lr
  O : IsRf w o om g B lo
  P : IsRR w p vp f B
  Q : IsRR w q vq g B
  s1 : p ≠ r ∧ p ≠ bm
  s2 : ∀ x ∈ rowOf vp, x ≠ r ∧ x ≠ bm
  s3 : ∀ x, x = o ∨ x = om ∨ x = q ∨ x ∈ rowOf vq → x ≠ r ∧ x ≠ bm ∧ x ≠ p
  own : w0.heap.size ≤ r ∧ w0.heap.size ≤ bm ∧ w0.heap.size ≤ p
  K : Keep [] w0 w

theorem Plays.keep {w0 w w' : World} {r bm p o om q : Nat} {vp vq : Value} {f g : Int → Int} {B lr lo : Int} (h : Plays w0 w r bm p o om q vp vq f g B lr lo) (k : Keep [] w w') : Plays w0 w' r bm p o om q vp vq f g B lr lo :=
  ⟨h.R.keep k (by simp) (by simp), h.O.keep k (by simp) (by simp), h.P.keep k (by simp) (by simp), h.Q.keep k (by simp) (by simp), h.s1, h.s2, h.s3, h.own, h.K.trans k (by simp)⟩

/-- behind a step -/
theorem Plays.step {w0 w w' : World} {r bm p o om q : Nat} {vp vq : Value} {f g : Int → Int} {B lr lo : Int} (h : Plays w0 w r bm p o om q vp vq f g B lr lo) (d : DoesOut r bm p vp f B w w') :
    ∃ f1 lr' vp', (∀ k, f1 k ≤ f k + 1) ∧ Plays w0 w' r bm p o om q vp' vq f1 g B lr' lo := by
  obtain ⟨f1, lr', vp', hle, hR, hP, hrow, k⟩ := d
  obtain ⟨hr, hbm⟩ := h.R.lt
  have hp := h.P.blk.lt
  refine ⟨f1, lr', vp', hle, hR, ?_, hP, ?_, h.s1, fun x hx => ?_, h.s3, h.own, h.K.trans k (fun x hx => Or.inr ?_)⟩
  · have h1 := h.s3 o (by simp)
    have h2 := h.s3 om (by simp)
    exact h.O.keep k (by simp; exact h1) (by simp; exact h2)
  · have h1 := h.s3 q (by simp)
    exact h.Q.keep k (by simp; exact h1) (fun x hx => by have := h.s3 x (by simp [hx]); simp; exact this)
  · rcases hrow x hx with h1 | h1
    · exact h.s2 x h1
    · omega
  · have := h.own
    simp at hx
    rcases hx with rfl | rfl | rfl
    · exact this.1
    · exact this.2.1
    · exact this.2.2

/-- behind a cloning: the clone goes on -/
theorem Plays.fork {w0 w w1 w2 : World} {r bm p o om q r' bm' q' : Nat} {vp vq u : Value} {f g : Int → Int} {B lr lo : Int} (h : Plays w0 w r bm p o om q vp vq f g B lr lo)
    (hq : IsRR w1 q' u f B) (hq1 : w.heap.size ≤ q') (hq2 : ∀ x ∈ rowOf u, w.heap.size ≤ x) (k1 : Keep [] w w1) (hr : IsRf w2 r' bm' f B lr) (hr1 : w1.heap.size ≤ r') (hr2 : w1.heap.size ≤ bm') (k2 : Keep [] w1 w2) :
    Plays w0 w2 r' bm' p r bm q' vp u f f B lr lr := by
  have hs := k1.size
  have hp := h.P.blk.lt
  obtain ⟨hrl, hbl⟩ := h.R.lt
  have k := k1.trans k2 (by simp)
  have hu := hq.row.lt
  have hq3 := hq.blk.lt
  have hw := h.K.size
  refine ⟨hr, h.R.keep k (by simp) (by simp), h.P.keep k (by simp) (by simp), hq.keep k2 (by simp) (by simp), by omega, fun x hx => by have := h.P.row.lt x hx; omega, fun x hx => ?_, ⟨by omega, by omega, h.own.2.2⟩, h.K.trans k (by simp)⟩
  rcases hx with rfl | rfl | rfl | hx
  · exact ⟨by omega, by omega, fun e => h.s1.1 e.symm⟩
  · exact ⟨by omega, by omega, fun e => h.s1.2 e.symm⟩
  · exact ⟨by omega, by omega, by omega⟩
  · have h1 := hu x hx
    have h2 := hq2 x hx
    exact ⟨by omega, by omega, by omega⟩

theorem same_bool (f g : Int → Int) : ∃ b : Bool, (b = true ↔ ∀ k, f k = g k) := by
  by_cases h : ∀ k, f k = g k
  · exact ⟨true, fun _ => h, fun _ => rfl⟩
  · exact ⟨false, (fun e => by cases e), fun e => absurd e h⟩

set_option maxRecDepth 100000 in
set_option maxHeartbeats 12800000 in
theorem refsPlays_walk (blocks : Int) (v : Value) (l : List (Int × Int)) (w : World) (h0 : -9223372036854775808 ≤ blocks) (h1 : blocks ≤ 9223372036854775807) (hst : Steps w v l) :
    Calls Try.prog 7 #[.int .i64 blocks, v] w fun e w' => e = .returned (.bool true) ∧ Keep [] w w' := by
  obtain ⟨ao, cap, rfl, hc, hl, hnn, hbd, hcx⟩ := hst
  obtain ⟨B, hB⟩ : ∃ B, B = min (max blocks 2) 4294967296 := ⟨_, rfl⟩
  have HNN := Lib.hid hnn
  have HX := Lib.hid hcx
  have HBD := Lib.hid hbd
  have HB := Lib.hid hB
  clear hcx hnn hbd hB
  go_enter Try.func7, Try.ntmps7
  go_wp2_with fail
  refine (shown_any w).mono ?_
  rintro e w1 ⟨rfl, k1⟩
  go_wp2_with fail
  refine (rnew_any blocks w1 h0 h1 B HB.out).mono ?_
  rintro e w2 ⟨r, bm, rfl, hR, hr, hbm, k2⟩
  go_wp2_with fail
  refine (qnew_any blocks w2 B HB.out).mono ?_
  rintro e w3 ⟨p, rfl, hP, hp, k3⟩
  have hR3 := hR.keep k3 (by simp) (by simp)
  have K3 := (k1.trans k2 (by simp)).trans k3 (by simp)
  have h12 := k1.size
  have h23 := k2.size
  obtain ⟨hrl, hbl⟩ := hR.lt
  clear hR
  go_wp2_with fail
  refine (rclone_any r bm _ B 2 w3 hR3).mono ?_
  rintro e w4 ⟨o, om, rfl, hO, ho, hom, k4⟩
  have hP4 := hP.keep k4 (by simp) (by simp)
  have hR4 := hR3.keep k4 (by simp) (by simp)
  have K4 := K3.trans k4 (by simp)
  have hpl := hP.blk.lt
  obtain ⟨hol, homl⟩ := hO.lt
  clear hP hR3
  go_wp2_with fail
  refine (qclone_any p _ _ B w4 hP4).mono ?_
  rintro e w5 ⟨q, vq, rfl, hQ, hq, hqr, k5⟩
  have h34 := k3.size
  have h45 := k4.size
  have PL : Plays w w5 r bm p o om q (.slice none 0 0) vq (fun _ => 0) (fun _ => 0) B 2 2 := by
    refine ⟨hR4.keep k5 (by simp) (by simp), hO.keep k5 (by simp) (by simp), hP4.keep k5 (by simp) (by simp), hQ, by omega, fun x hx => by simp [rowOf, Value.ownBlock] at hx, fun x hx => ?_, by omega, K4.trans k5 (by simp)⟩
    rcases hx with rfl | rfl | rfl | hx
    · omega
    · omega
    · omega
    · have := hqr x hx; omega
  clear hR4 hO hP4 hQ K3 K4 k1 k2 k3 k4 k5 hr hbm hp ho hom hq hqr h12 h23 h34 h45 hrl hbl hpl hol homl
  have HPL := Lib.hid PL
  clear PL
  go_wp2_with fail
  go_loopw [6, 8, 9, 10] (fun sr so sq i wr => ∃ (k r bm o om q : Nat) (vp vq : Value) (f g : Int → Int) (lr lo : Int), sr = .pointer (some ⟨r, 0, none⟩) ∧ so = .pointer (some ⟨o, 0, none⟩) ∧ sq = .pointer (some ⟨q, 0, none⟩) ∧ i = .int .i64 k ∧ k ≤ l.length ∧ k ≤ 200 ∧ Hid (∀ j, f j ≤ (k : Int)) ∧ Hid (Plays w wr r bm p o om q vp vq f g B lr lo)) (fun _ _ _ i _ => 200 - (intOf i).toNat)
  case atStart => exact ⟨0, r, bm, o, om, q, _, vq, _, _, 2, 2, rfl, rfl, rfl, rfl, Nat.zero_le _, Nat.zero_le _, Lib.hid (fun _ => Int.le_refl _), HPL⟩
  case round =>
    clear HPL
    obtain ⟨k, r, bm, o, om, q, vp, vq, f, g, lr, lo, rfl, rfl, rfl, rfl, hkl, hk200, HFB, HP⟩ := hrel
    by_cases hin : k < l.length ∧ k < 200
    · obtain ⟨hlt, h200⟩ := hin
      obtain ⟨x, hx⟩ : ∃ x, l[k]? = some x := ⟨_, List.getElem?_eq_getElem hlt⟩
      obtain ⟨kind, n⟩ := x
      have hn := HBD.out _ (List.mem_of_getElem? hx)
      simp only at hn
      obtain ⟨a, rfl⟩ : ∃ a, ao = some a := by
        cases ao with
        | none => have := HNN.out rfl; rw [this] at hlt; simp at hlt
        | some a => exact ⟨a, rfl⟩
      have hcl : ∀ W, Keep [] w W → W.cell? (a.add (k * 2)) = some (.int .i64 kind) ∧ W.cell? { block := (a.add (k * 2)).block, off := (a.add (k * 2)).off + 1 } = some (.int .i64 n) := fun W kW => by
        obtain ⟨x1, x2⟩ := HX.out a rfl k _ hx
        exact ⟨by rw [kW.cell (World.block_lt_of_cell? w _ x1) (by simp)]; exact x1, by rw [kW.cell (World.block_lt_of_cell? w _ x2) (by simp)]; exact x2⟩
      have HCL := Lib.hid hcl
      have hc0 := hcl wr HP.out.K
      obtain ⟨e0, e1⟩ := hc0
      clear hcl hx
      by_cases hk4 : kind = 4
      · subst hk4
        go_wp2_with fail
        refine (qclone_any p vp f B wr HP.out.P).mono ?_
        rintro e w6 ⟨q', u, rfl, hq, hq1, hq2, k6⟩
        have hR6 := HP.out.R.keep k6 (by simp) (by simp)
        go_wp2_with fail
        refine (rclone_any r bm f B lr w6 hR6).mono ?_
        rintro e w7 ⟨r', bm', rfl, hr, hr1, hr2, k7⟩
        have HP' := Lib.hid (HP.out.fork hq hq1 hq2 k6 hr hr1 hr2 k7)
        replace HFB : Hid (∀ j, f j ≤ ((k + 1 : Nat) : Int)) := Lib.hid (fun j => by have := HFB.out j; omega)
        have e7 := HCL.out w7 HP'.out.K
        obtain ⟨e70, e71⟩ := e7
        clear HP hq hq1 hq2 k6 hR6 hr hr1 hr2 k7 e0 e1
        go_wp2_with fail
        refine (same_any r' bm' p vp f B lr n _ HP'.out.R HP'.out.P hn.1 hn.2).mono ?_
        rintro e wa ⟨rfl, ka⟩
        have HA := Lib.hid (HP'.out.keep ka)
        have ca := HCL.out wa (HA.out.K)
        clear ka
        go_wp2_with fail
        refine (qsame_any p q' vp u f f B true _ HA.out.P HA.out.Q (by simp)).mono ?_
        rintro e wb ⟨rfl, kb⟩
        have HB2 := Lib.hid (HA.out.keep kb)
        clear kb HA
        go_wp2_with fail
        refine (rsame_eq r' bm' r bm f f B lr lr true _ HB2.out.R HB2.out.O (by simp)).mono ?_
        rintro e wc ⟨rfl, kc⟩
        have HC2 := Lib.hid (HB2.out.keep kc)
        clear kc HB2
        go_wp2_with fail
        refine (rsame_eq r bm r' bm' f f B lr lr true _ HC2.out.O HC2.out.R (by simp)).mono ?_
        rintro e wd ⟨rfl, kd⟩
        have HD2 := Lib.hid (HC2.out.keep kd)
        clear kd HC2
        go_wp2_with fail
        refine (rsame_eq r' bm' r' bm' f f B lr lr true _ HD2.out.R HD2.out.R (by simp)).mono ?_
        rintro e we ⟨rfl, ke⟩
        have HE2 := Lib.hid (HD2.out.keep ke)
        clear ke HD2
        go_wp2_with fail
        refine (rsame_nil r' _).mono ?_
        rintro e wf ⟨rfl, kf⟩
        have HF2 := Lib.hid (HE2.out.keep kf)
        clear kf HE2
        go_wp2
        go_roundw
        case rel => exact ⟨k + 1, r', bm', r, bm, q', vp, u, f, f, lr, lr, rfl, rfl, rfl, by go_num, by omega, by omega, HFB, HF2⟩
        case measure => simp [intOf]; omega
      · have hkb : (kind == 4) = false := by rw [beq_eq_false_iff_ne]; exact hk4
        clear hk4
        go_wp2_with fail
        refine (does_any r bm p vp f B lr kind n wr HP.out.R HP.out.P HP.out.s1 HP.out.s2 (fun j => by have := HFB.out j; omega)).mono ?_
        rintro e w6 ⟨rfl, hd⟩
        obtain ⟨f1, lr1, vp1, hle, hpl⟩ := HP.out.step hd
        have HP1 := Lib.hid hpl
        have HFB1 : Hid (∀ j, f1 j ≤ ((k + 1 : Nat) : Int)) := Lib.hid (fun j => by have := HFB.out j; have := hle j; omega)
        have e7 := HCL.out w6 HP1.out.K
        obtain ⟨e70, e71⟩ := e7
        clear HP HFB hd hle hpl e0 e1
        obtain ⟨b, hb⟩ := same_bool f1 g
        have HBB := Lib.hid hb
        have HBR : Hid (b = true ↔ ∀ k, g k = f1 k) := Lib.hid ⟨fun h k => (hb.1 h k).symm, fun h => hb.2 (fun k => (h k).symm)⟩
        have hbn : (b != b) = false := by simp
        clear hb
        go_wp2_with fail
        refine (same_any r bm p vp1 f1 B lr1 n _ HP1.out.R HP1.out.P hn.1 hn.2).mono ?_
        rintro e wa ⟨rfl, ka⟩
        have HA := Lib.hid (HP1.out.keep ka)
        have ca := HCL.out wa (HA.out.K)
        clear ka
        go_wp2_with fail
        refine (qsame_any p q vp1 vq f1 g B b _ HA.out.P HA.out.Q HBB.out).mono ?_
        rintro e wb ⟨rfl, kb⟩
        have HB2 := Lib.hid (HA.out.keep kb)
        clear kb HA
        go_wp2_with fail
        refine (rsame_eq r bm o om f1 g B lr1 lo b _ HB2.out.R HB2.out.O HBB.out).mono ?_
        rintro e wc ⟨rfl, kc⟩
        have HC2 := Lib.hid (HB2.out.keep kc)
        clear kc HB2
        go_wp2_with fail
        refine (rsame_eq o om r bm g f1 B lo lr1 b _ HC2.out.O HC2.out.R HBR.out).mono ?_
        rintro e wd ⟨rfl, kd⟩
        have HD2 := Lib.hid (HC2.out.keep kd)
        clear kd HC2
        go_wp2_with fail
        refine (rsame_eq r bm r bm f1 f1 B lr1 lr1 true _ HD2.out.R HD2.out.R (by simp)).mono ?_
        rintro e we ⟨rfl, ke⟩
        have HE2 := Lib.hid (HD2.out.keep ke)
        clear ke HD2
        go_wp2_with fail
        refine (rsame_nil r _).mono ?_
        rintro e wf ⟨rfl, kf⟩
        have HF2 := Lib.hid (HE2.out.keep kf)
        clear kf HE2
        go_wp2
        go_roundw
        case rel => exact ⟨k + 1, r, bm, o, om, q, vp1, vq, f1, g, lr1, lo, rfl, rfl, rfl, by go_num, by omega, by omega, HFB1, HF2⟩
        case measure => simp [intOf]; omega
    · have hin' : k < l.length → ¬ k < 200 := fun h1 h2 => hin ⟨h1, h2⟩
      have cS := same_any o om q vq g B lo 2 wr HP.out.O HP.out.Q (by omega) (by omega)
      by_cases hlt : k < l.length
      · have h200 : ¬ (k : Int) < 200 := by have := hin' hlt; omega
        clear hin hin'
        go_wp2_with fail
        refine cS.mono ?_
        rintro e w6 ⟨rfl, k6⟩
        go_wp2
        go_ret
        exact ⟨by simp, HP.out.K.trans k6 (by simp)⟩
      · clear hin hin'
        go_wp2_with fail
        refine cS.mono ?_
        rintro e w6 ⟨rfl, k6⟩
        go_wp2
        go_ret
        exact ⟨by simp, HP.out.K.trans k6 (by simp)⟩


theorem refsPlays_readable : Try.f7.params.toList.all (fun t => Try.prog.readableRec t && decide (t < Try.prog.types.size)) = true := by kernel_rfl

open Go.ChangeShapes Go.WideShapes Go.ChangeAt in
set_option maxRecDepth 100000 in
theorem refsPlays_contract (H : Type) (enc : TypeId × Value → H) (W : World) (base : Nat) (args : Array Value) (ds gs : List (DataW H)) (before : List MemPlace)
    (hval : ∀ (j : Nat) t v, Try.f7.params[j]? = some t → args[j]? = some v → Value.okWide Try.prog W .any base t v)
    (hW : DataW.Whole enc Try.prog Try.f7.params.toList Rows.refsPlaysSpec.vars false W args.toList ds gs before) :
    Calls Try.prog 7 args W fun e W' => ∃ v, e = .returned v ∧ Rows.refsPlaysSpec.post enc Try.prog Try.f7 false true false false W args v W' := by
  have hW' := hW
  obtain ⟨p, q, hA0, hV, rfl, _, _⟩ := hW
  have hA : DataW.TrodAll enc Try.prog W 0 (fun _ => true) true Try.f7.params.toList args.toList ds p := hA0
  rw [Try.params7] at hA hval
  obtain ⟨v0, v1, d0, d1, p0, p1, rfl, rfl, rfl, h0, h1⟩ := trodAll_two hA
  obtain ⟨rfl, rfl⟩ := trodVars_none hV
  obtain ⟨a0, rfl, rfl, rfl, w0⟩ := open_int Try.underlying3 (hval 0 3 v0 rfl rfl) h0
  obtain ⟨l, hst⟩ := open_steps Try.underlying40 Try.underlying46 (by kernel_rfl) rfl rfl (by kernel_rfl) (by kernel_rfl) Try.underlying3 Try.underlying3 (hval 1 40 v1 rfl rfl) h1
  have hb := wf_i64s w0
  refine (refsPlays_walk a0 v1 l W hb.1 hb.2 hst).mono fun e W' ⟨he, hk⟩ => ?_
  subst he
  exact ⟨_, rfl, law_post Try.laidOut refsPlays_readable rfl Try.underlying4 rfl hW' rfl hk.below0⟩

set_option maxRecDepth 100000 in
theorem refsPlays_lifted (os : Os) (started : os.Started) (H : Type) (enc : TypeId × Value → H) :
    ReturnsInHanded {} Try.checked os 7 .any (Rows.refsPlaysSpec.pre6 enc Try.prog Try.f7 Rows.refsPlaysRow.domain false) (Rows.refsPlaysSpec.post enc Try.prog Try.f7 false true false false) := by
  refine returnsInHanded_of_change_sized (C := Try.checked) Try.own started (by kernel_rfl) Try.func7
    (ChangeSpec.witness6 (enc := enc) (C := Try.checked) false ⟨#[], #[.int .i64 0, .slice none 0 0], []⟩ 8 (by kernel_rfl) (by kernel_rfl) (by kernel_rfl) (by kernel_rfl)) ?_
  intro W base args ds gs before hval hW _ _ _
  exact refsPlays_contract H enc W base args ds gs before hval hW

theorem refsPlays_holds : Rows.RefsPlaysSaid :=
  OpenClaim.holds_of_wide 7 Try.f7 rfl rfl rfl rfl rfl rfl rfl ⟨rfl, rfl, rfl, rfl, rfl⟩ rfl rfl rfl rfl rfl (by kernel_rfl) Try.func7 (by kernel_rfl)
    (of_decide_eq_true (by kernel_rfl)) (by unfold Func.isWrapper; first | (rw [if_pos (by decide +kernel)]; kernel_rfl) | (rw [if_neg (by decide +kernel)]; exact ⟨rfl, rfl⟩))
    (fun os started H enc _ => refsPlays_lifted os started H enc)

#print axioms refsPlays_holds
end Go.Proofs.Ytlecdappgpbnlaa
