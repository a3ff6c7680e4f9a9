/-
  PackReads: a reader reads what the document says: the law returns true, for any bytes and any fields. No condition.
-/
import Derived.Test.YteogkgjajhdhjaaPackH
import Derived.Test.YteogkgjajhdhjaaOpen2
import Derived.Test.YteogkgjajhdhjaaArith
import Derived.Deep.RegionWith
import Derived.Deep.DeepCutAuto
import Derived.Deep.CutBlock
namespace Go.Proofs.Yteogkgjajhdhjaa
open Go.RowKit

/-- the document's reader, of the call's own -/
structure LK (B : Nat) (w : World) (bk : Nat) (st : Pk.Rd) : Prop where
  isk : IsK w bk st
  hb : B ≤ bk

theorem LK.step {w0 w w' : World} {bk : Nat} {st st' : Pk.Rd} (h : LK w0.heap.size w bk st) (k : Keep [] w0 w) (o : KOut w w' bk st') : LK w0.heap.size w' bk st' ∧ Keep [] w0 w' ∧ Keep [bk] w w' :=
  ⟨⟨o.1, h.hb⟩, k.trans o.2 (fun x hx => Or.inr (by simp at hx; subst hx; exact h.hb)), o.2⟩

theorem LK.keep {F : List Nat} {B : Nat} {w w' : World} {bk : Nat} {st : Pk.Rd} (h : LK B w bk st) (k : Keep F w w') (hd : bk ∉ F) : LK B w' bk st := ⟨h.isk.keep k hd, h.hb⟩

set_option maxRecDepth 100000 in
set_option maxHeartbeats 4000000 in
theorem packReads_walk (vb vl : Value) (l0 : List UInt8) (fs : List Fld) (w : World) (hb : RdV w vb l0.length 1 (bv l0)) (hl : RdV w vl fs.length 4 (fcells fs)) (_hbl : l0.length ≤ 9223372036854775807) (_hfl : fs.length ≤ 9223372036854775807) (hok : ∀ f ∈ fs, f.Ok) :
    Calls Try.prog 6 #[vb, vl] w fun e w' => e = .returned (.bool true) ∧ Keep [] w w' := by
  obtain ⟨n, hN⟩ : ∃ n, n = l0.length := ⟨_, rfl⟩
  rw [← hN] at hb _hbl
  have HN := Lib.hid hN
  clear hN
  obtain ⟨i0, hi, hz0, hz1, hz2⟩ := info_parts Try.info5
  obtain ⟨hbl, ab, cb, rfl, hcb, hnnb, hxb⟩ := hb
  obtain ⟨hll, al, cl, rfl, hcl, hnnl, hxl⟩ := hl
  have HBL := Lib.hid hbl
  have HXB := Lib.hid hxb
  have HNB := Lib.hid hnnb
  have HXL := Lib.hid hxl
  have HNL := Lib.hid hnnl
  have HOK := Lib.hid hok
  clear hbl hxb hnnb hll hxl hnnl hok
  have app : ∀ (w1 : World) (m : Nat), Keep [] w w1 → m ≤ n → m ≤ 2000 → ∃ v' w', (Builtin.append_ #[27, 27] 27 #[.slice (some ⟨w1.heap.size, 0, none⟩) 0 0, .slice ab m cb]).run Try.prog (w1.alloc (.cells #[] 5)) = .ok v' w' ∧ AppOut 5 1 (w1.alloc (.cells #[] 5)) (.slice (some ⟨w1.heap.size, 0, none⟩) 0 0) (0 + m) ([] ++ bv (l0.take m)) v' w' := by
    intro w1 m k1 hm hm2
    have hN := HN.out
    refine run_app_slice _ 27 _ 5 i0 _ 1 1 Try.underlying27 hi hz0 hz1 hz2 rfl (by decide) _ _ _ (ownsRow_made0 w1 5 1) ab m cb (bv (l0.take m)) (by simp [bv]; omega) (fun h => ⟨by have := (HNB.out h).1; omega, (HNB.out h).2⟩) (fun a ha j u hu => ?_) (bv_one _) (by unfold maxLen; omega) (by omega)
    have hu' : (bv l0)[j]? = some u := by
      simp only [bv, List.map_take] at hu ⊢
      rw [List.getElem?_take] at hu
      split at hu
      · exact hu
      · cases hu
    have h0 := HXB.out a ha j u hu'
    have h1 : w1.cell? (a.add j) = some u := by rw [k1.cell (World.block_lt_of_cell? w _ h0) (by simp)]; exact h0
    rw [World.cell?_alloc_lt _ _ _ (World.block_lt_of_cell? w1 _ h1)]
    exact h1
  have fin : ∀ (w1 : World) (m : Nat) (v2 : Value) (w2 : World), Keep [] w w1 → m ≤ n → m ≤ 2000 → AppOut 5 1 (w1.alloc (.cells #[] 5)) (.slice (some ⟨w1.heap.size, 0, none⟩) 0 0) (0 + m) ([] ++ bv (l0.take m)) v2 w2 →
      ∃ (l : List UInt8) (ao : Option Addr) (c : Nat), v2 = .slice ao l.length c ∧ l.length ≤ 2000 ∧ w2.ownsRow 0 5 1 v2 l.length (bv l) ∧ Keep [] w w2 ∧ ∀ k ∈ rowOf v2, w.heap.size ≤ k := by
    intro w1 m v2 w2 k1 hm hm2 hO
    have hN := HN.out
    have hlen : (l0.take m).length = 0 + m := by simp; omega
    obtain ⟨ao, c, e⟩ := hO.slice
    refine ⟨l0.take m, ao, c, by rw [hlen]; exact e, by omega, by rw [hlen]; simpa using hO.1, (k1.alloc _).grown hO.2.1 (fun k hk => ?_), fun k hk => ?_⟩
    · simp [Value.ownBlock] at hk
      have := k1.size
      exact Or.inr (by omega)
    · have := k1.size
      rcases hO.2.2 k hk with h | h
      · simp [rowOf, Value.ownBlock] at h; omega
      · simp at h; omega
  have APP := Lib.hid app
  have FIN := Lib.hid fin
  clear app fin
  go_enter Try.func6, Try.ntmps6
  go_wp2_with fail
  refine (shown_any w).mono ?_
  rintro e w1 ⟨rfl, k1⟩
  go_upto_region 2 with fail
  go_cut [0] (fun s0 wx => ∃ (l : List UInt8) (ao : Option Addr) (c : Nat), s0 = .slice ao l.length c ∧ l.length ≤ 2000 ∧ wx.ownsRow 0 5 1 s0 l.length (bv l) ∧ Keep [] w wx ∧ ∀ k ∈ rowOf s0, w.heap.size ≤ k)
  case first =>
    by_cases hmin : 2000 < n
    · have A := APP.out w1 2000 k1 (by omega) (by omega)
      go_wp2_with (at_builtin; refine wpList_app rfl _ _ 27 27 rfl _ _ rfl rfl A ?_; intro v2 w2 hO)
      go_meet
      case rel => exact FIN.out w1 2000 v2 w2 k1 (by omega) (by omega) hO
    · have A := APP.out w1 n k1 (by omega) (by omega)
      go_wp2_with (at_builtin; refine wpList_app rfl _ _ 27 27 rfl _ _ rfl rfl A ?_; intro v2 w2 hO)
      go_meet
      case rel => exact FIN.out w1 n v2 w2 k1 (by omega) (by omega) hO
  case rest =>
    obtain ⟨l, ao, c, rfl, hl2, own, K2, R2⟩ := hcut
    clear k1 APP FIN
    have rd2 := RdV.ofOwn own
    have hcv := conv_str rd2
    have HL2 := Lib.hid own
    clear own
    obtain ⟨nl, hnl⟩ : ∃ nl, nl = l.length := ⟨_, rfl⟩
    have HNL2 := Lib.hid hnl
    rw [← hnl] at hcv rd2 hl2 ⊢
    clear hnl
    go_wp2_with fail
    obtain ⟨bk, hbk⟩ : ∃ bk, bk = wc.heap.size := ⟨_, rfl⟩
    obtain ⟨w3, hw3⟩ : ∃ w3, w3 = wc.alloc (.cells #[.string (txt l), .bool false] 44) := ⟨_, rfl⟩
    have M3 : LK w.heap.size w3 bk ⟨l, false⟩ := by
      have := HNL2.out
      rw [hw3, hbk]
      exact ⟨⟨Blk.new _ _ _, by show l.length ≤ _; omega⟩, K2.size⟩
    have k3 : Keep [] wc w3 := by rw [hw3]; exact (Keep.refl _ _).alloc _
    have bk3 : ∀ x ∈ rowOf (.slice ao l.length c), x ≠ bk := fun x hx h => by
      have h1 := (HL2.out.lt x (mem_rowOf.1 hx)).2
      omega
    rw [← hw3, ← hbk]
    have K3 : Keep [] w w3 := K2.trans k3 (by simp)
    have own3 := ownsRow_keep HL2.out k3 (by simp)
    have rd3 : RdV w3 (.slice ao nl c) l.length 1 (bv l) := by have := RdV.ofOwn own3; rw [← HNL2.out] at this ⊢; exact this
    have HL3 := Lib.hid own3
    clear own3 rd2 hcv HL2 K2 k3 hbk hw3
    go_wp2_with fail
    refine (read_any _ l w3 rd3 (by have := HNL2.out; omega)).mono ?_
    rintro e w4 ⟨br, v4, rfl, h4, k4, b4, q4⟩
    have K4 : Keep [] w w4 := K3.trans k4 (by simp)
    have L4 := LR.new K3 h4 b4 q4
    have M4 := M3.keep k4 (by simp)
    have HL4 := Lib.hid (ownsRow_keep HL3.out k4 (by simp))
    have hbr : br ≠ bk := fun h => by have := M3.isk.blk.lt; omega
    have hq : ∀ x ∈ fpOf v4, x ≠ bk := fun x hx h => by have := M3.isk.blk.lt; have := q4 x hx; omega
    have hs : ∀ x ∈ rowOf (.slice ao l.length c), x ∉ rfp br v4 := fun x hx h => by
      have h1 := (HL3.out.lt x (mem_rowOf.1 hx)).2
      rcases List.mem_cons.1 h with h | h
      · omega
      · have := q4 x h; omega
    clear h4 k4 M3 HL3 rd3 K3 b4 q4
    go_wp2_with fail
    go_loopw [8] (fun i wr => ∃ (k : Nat) (l' : List UInt8), k ≤ nl ∧ i = .int .i64 k ∧ l'.length = nl ∧ Hid (wr.ownsRow 0 5 1 (.slice ao l.length c) l.length (bv l')) ∧ Keep [] w wr ∧ LR w.heap.size wr br v4 ⟨l, false⟩ ∧ LK w.heap.size wr bk ⟨l, false⟩) (fun i _ => nl - (intOf i).toNat)
    case atStart => exact ⟨0, l, Nat.zero_le _, rfl, HNL2.out.symm, HL4, K4, L4, M4⟩
    case round =>
      obtain ⟨k, l', hk, rfl, hl', HO, K, L, M⟩ := hrel
      clear L4 M4 K4 HL4
      by_cases hlt : k < nl
      · obtain ⟨g, rfl⟩ : ∃ g, ao = some ⟨g, 0, none⟩ := by
          have := HNL2.out
          rcases slice_own HO.out with ⟨_, h⟩ | ⟨g, c', h, _⟩
          · omega
          · cases h; exact ⟨g, rfl⟩
        obtain ⟨x, hx⟩ : ∃ x, l'[k]? = some x := ⟨_, List.getElem?_eq_getElem (by omega)⟩
        obtain ⟨c1, f1, o1⟩ := own_cell HO.out hx
        have hc : nl ≤ c := by
          have := HNL2.out
          rcases slice_own HO.out with ⟨h, _⟩ | ⟨g, c', h, hc⟩
          · cases h
          · cases h; omega
        have hxl := x.toNat_lt
        have O1 := Lib.hid (o1 (UInt8.ofNat (x.toNat + 1)))
        have hlen : (l'.set k (UInt8.ofNat (x.toNat + 1))).length = nl := by simpa using hl'
        have HLEN := Lib.hid hlen
        have hg : g ∉ rfp br v4 := hs g (by simp [rowOf, Value.ownBlock])
        have hgk : bk ≠ g := fun h => bk3 g (by simp [rowOf, Value.ownBlock]) h.symm
        have hge : w.heap.size ≤ g := R2 g (by simp [rowOf, Value.ownBlock])
        have K' : ∀ u, Keep [] w (wr.setCell ⟨g, k, none⟩ u) := fun u => K.setCell (Or.inr hge) u
        have L' : ∀ u, LR w.heap.size (wr.setCell ⟨g, k, none⟩ u) br v4 ⟨l, false⟩ := fun u => L.keep (F := [g]) ((Keep.refl _ _).setCell (Or.inl (by simp)) u) (fun y hy h => by simp at h; exact hg (h ▸ hy))
        have M' : ∀ u, LK w.heap.size (wr.setCell ⟨g, k, none⟩ u) bk ⟨l, false⟩ := fun u => M.keep (F := [g]) ((Keep.refl _ _).setCell (Or.inl (by simp)) u) (by simpa using hgk)
        have ev : ((UInt8.ofNat (x.toNat + 1)).toNat : Int) = ((x.toNat : Int) + 1) % 256 := by
          simp
        rw [ev] at O1
        clear o1 hlen hx ev hl' L M K
        go_wp2
        exact ⟨⟨k + 1, _, by omega, by go_num, HLEN.out, O1, K' _, L' _, M' _⟩, by simp [intOf]; omega⟩
      · have hne : ∀ x ∈ rfp br v4, x ≠ bk := fun x hx => by
          rcases List.mem_cons.1 hx with h | h
          · rw [h]; exact hbr
          · exact hq x h
        clear HO hl' R2 bk3 hs HNL2
        go_wp2_with fail
        go_loopw [9] (fun i ws => ∃ (k : Nat) (st : Pk.Rd) (v : Value), k ≤ fs.length ∧ k ≤ 60 ∧ i = .int .i64 k ∧ Keep [] w ws ∧ LR w.heap.size ws br v st ∧ (∀ x ∈ rfp br v, x ≠ bk) ∧ LK w.heap.size ws bk st) (fun i _ => 60 - (intOf i).toNat)
        case atStart => exact ⟨0, _, _, Nat.zero_le _, Nat.zero_le _, rfl, K, L, hne, M⟩
        case round =>
          clear L M K hne hq hlt hk hbr
          obtain ⟨j, st, v, hj, hj60, rfl, K, L, hne, M⟩ := hrel
          by_cases hlt : j < fs.length
          · by_cases h60 : j < 60
            · obtain ⟨a, rfl⟩ : ∃ a, al = some a := by
                cases al with
                | none => have := (HNL.out rfl).1; omega
                | some a => exact ⟨a, rfl⟩
              obtain ⟨f, hf⟩ : ∃ f, fs[j]? = some f := ⟨_, List.getElem?_eq_getElem hlt⟩
              have cell : ∀ i u, f.cells[i]? = some u → wr.cell? (a.add (j * 4 + i)) = some u := fun i u hu => by
                have hi : i < 4 := (List.getElem?_eq_some_iff.1 hu).1
                have h0 := HXL.out a rfl (j * 4 + i) u (by rw [fcells_get fs j i f hf hi]; exact hu)
                rw [K.cell (World.block_lt_of_cell? w _ h0) (by simp)]
                exact h0
              have c0 : wr.cell? (a.add (j * 4)) = some (.int .i64 f.kind) := cell 0 _ rfl
              have e1 : ({ block := (a.add (j * 4)).block, off := (a.add (j * 4)).off + 1 } : Addr) = a.add (j * 4 + 1) := by rw [← add_add]; simp [Addr.add]
              have c1 : wr.cell? { block := (a.add (j * 4)).block, off := (a.add (j * 4)).off + 1 } = some (.int .i64 f.n) := by rw [e1]; exact cell 1 _ rfl
              have lt0 : (a.add (j * 4)).block < w.heap.size := by
                have h0 := HXL.out a rfl (j * 4 + 1) _ (by rw [fcells_get fs j 1 f hf (by omega)]; rfl)
                rw [← e1] at h0
                have h1 := World.block_lt_of_cell? w _ h0
                exact h1
              clear e1
              clear cell hf
              have hbk : bk ∉ [br] := fun h => by simp at h; exact hne br (by simp [rfp]) h.symm
              go_upto_block 4 with fail
              go_cut [10] (fun s10 wx => s10 = .bool true ∧ ∃ (st' : Pk.Rd) (v' : Value), Keep [] w wx ∧ LR w.heap.size wx br v' st' ∧ (∀ x ∈ rfp br v', x ≠ bk) ∧ LK w.heap.size wx bk st')
              case first =>
                rcases Bool.eq_false_or_eq_true (f.kind == 4) with h4 | h4
                · obtain ⟨g0, g1, g2, g3⟩ : (f.kind == 0) = false ∧ (f.kind == 1) = false ∧ (f.kind == 2) = false ∧ (f.kind == 3) = false := by
                    have : f.kind = 4 := by simpa using h4
                    rw [this]
                    decide
                  go_wp2_with fail
                  have Ld := L.keep (Keep.refl [] _).drew (by simp)
                  have Md := M.keep (Keep.refl [] _).drew (by simp)
                  have Kd := K.drew
                  have lt1 := World.block_lt_of_cell? wr _ c1
                  have nl1 : (a.add (j * 4)).block ∉ [br] := fun h => by
                    rw [List.mem_singleton] at h
                    have h1 := L.hb
                    rw [h] at lt0
                    omega
                  clear lt0
                  go_region_with (first
                    | (go_at_call 35; refine (rraw_any br v st f.n _ Ld.isr).mono ?_; rintro e w5 ⟨rfl, o5⟩; obtain ⟨v5, L5, K5, k5, r5⟩ := LR.step (w0 := w) Ld Kd o5; have M5 := Md.keep k5 hbk; have c5 : w5.cell? { block := (a.add (j * 4)).block, off := (a.add (j * 4)).off + 1 } = some (.int .i64 f.n) := (k5.cell lt1 nl1).trans c1; clear o5)
                    | (go_at_call 36; refine (kraw_any bk st f.n _ M5.isk).mono ?_; rintro e w6 ⟨rfl, o6⟩; obtain ⟨M6, K6, k6⟩ := LK.step (w0 := w) M5 K5 o6))
                  all_goals
                    go_simp
                    go_wp2
                    go_meet
                    case rel => exact ⟨by simp, _, _, K6, L5.keep k6 (fun x hx h => by simp at h; exact hne x (r5 x hx) h), fun x hx => hne x (r5 x hx), M6⟩
                · go_wp2_with   (first
                    | (go_at_call 28; refine (rbyte_any br v st wr L.isr).mono ?_; rintro e w5 ⟨rfl, o5⟩; obtain ⟨v5, L5, K5, k5, r5⟩ := LR.step (w0 := w) L K o5; have M5 := M.keep k5 hbk; clear o5 L)
                    | (go_at_call 29; refine (kbyte_any bk st _ M5.isk).mono ?_; rintro e w6 ⟨rfl, o6⟩; obtain ⟨M6, K6, k6⟩ := LK.step (w0 := w) M5 K5 o6)
                    | (go_at_call 30; refine (rword_any br v st wr L.isr).mono ?_; rintro e w5 ⟨rfl, o5⟩; obtain ⟨v5, L5, K5, k5, r5⟩ := LR.step (w0 := w) L K o5; have M5 := M.keep k5 hbk; clear o5 L)
                    | (go_at_call 31; refine (kword_any bk st _ M5.isk).mono ?_; rintro e w6 ⟨rfl, o6⟩; obtain ⟨M6, K6, k6⟩ := LK.step (w0 := w) M5 K5 o6)
                    | (go_at_call 32; refine (rlong_any br v st wr L.isr).mono ?_; rintro e w5 ⟨rfl, o5⟩; obtain ⟨v5, L5, K5, k5, r5⟩ := LR.step (w0 := w) L K o5; have M5 := M.keep k5 hbk; clear o5 L)
                    | (go_at_call 33; refine (klong_any bk st _ M5.isk).mono ?_; rintro e w6 ⟨rfl, o6⟩; obtain ⟨M6, K6, k6⟩ := LK.step (w0 := w) M5 K5 o6)
                    | (go_at_call 23; refine (rtext_any br v st wr L.isr).mono ?_; rintro e w5 ⟨rfl, o5⟩; obtain ⟨v5, L5, K5, k5, r5⟩ := LR.step (w0 := w) L K o5; have M5 := M.keep k5 hbk; clear o5 L)
                    | (go_at_call 34; refine (ktext_any bk st _ M5.isk).mono ?_; rintro e w6 ⟨rfl, o6⟩; obtain ⟨M6, K6, k6⟩ := LK.step (w0 := w) M5 K5 o6))
                  all_goals
                    go_meet
                    case rel => first
                      | exact ⟨rfl, _, _, K6, L5.keep k6 (fun x hx h => by simp at h; exact hne x (r5 x hx) h), fun x hx => hne x (r5 x hx), M6⟩
                      | exact ⟨by simp, _, _, K6, L5.keep k6 (fun x hx h => by simp at h; exact hne x (r5 x hx) h), fun x hx => hne x (r5 x hx), M6⟩
                      | exact ⟨rfl, _, _, K, L, hne, M⟩
              case rest =>
                clear c0 c1 lt0 hbk L M K hne
                obtain ⟨rfl, S, vS, K7, L8, H8, M8⟩ := hcut
                have m0 := M8.isk.blk.cell 0
                have m1 := M8.isk.blk.cell 1
                simp only [List.getElem?_cons_zero, List.getElem?_cons_succ] at m0 m1
                have hsz := txt_len S.b
                have hle := L8.isr.le
                have q25 := fun n => (left_any br vS S _ (L8.isr.keep ((Keep.refl [] _).drewN n) (by simp) (by simp))).mono fun _ _ h => (⟨h.1, h.2.symm⟩ : _ ∧ _)
                have q24 := fun n => (wrong_any br vS S _ (L8.isr.keep ((Keep.refl [] _).drewN n) (by simp) (by simp))).mono fun _ _ h => (⟨h.1, h.2.symm⟩ : _ ∧ _)
                have q37 := fun n => (noughts_any br vS S _ (L8.isr.keep ((Keep.refl [] _).drewN n) (by simp) (by simp))).mono fun _ _ h => (⟨h.1, h.2.symm⟩ : _ ∧ _)
                have q38 := fun n => (knoughts_any bk S _ (M8.isk.keep ((Keep.refl [] _).drewN n) (by simp))).mono fun _ _ h => (⟨h.1, h.2.symm⟩ : _ ∧ _)
                go_wp2_with fail
                go_quiet (first
                  | (go_at_call 25; exact Calls.quiet_of_same (q25 _))
                  | (go_at_call 24; exact Calls.quiet_of_same (q24 _))
                  | (go_at_call 37; exact Calls.quiet_of_same (q37 _))
                  | (go_at_call 38; exact Calls.quiet_of_same (q38 _)))
                have L9 := L8.keep ((Keep.refl [] _).drewN nq) (by simp)
                have M9 := M8.keep ((Keep.refl [] _).drewN nq) (by simp)
                have K9 := K7.drewN nq
                go_wp2
                exact ⟨⟨j + 1, S, vS, by omega, by omega, by go_num, K9, L9, H8, M9⟩, by simp [intOf]; omega⟩
            · go_wp2
              go_ret
              exact ⟨rfl, K⟩
          · go_wp2
            go_ret
            exact ⟨rfl, K⟩


theorem packReads_readable : Try.f6.params.toList.all (fun t => Try.prog.readableRec t && decide (t < Try.prog.types.size)) = true := by kernel_rfl

open Go.ChangeShapes Go.WideShapes Go.ChangeAt in
set_option maxRecDepth 100000 in
theorem packReads_contract (H : Type) (enc : TypeId × Value → H) (W : World) (base : Nat) (args : Array Value) (ds gs : List (DataW H)) (before : List MemPlace)
    (hval : ∀ (j : Nat) t v, Try.f6.params[j]? = some t → args[j]? = some v → Value.okWide Try.prog W .any base t v)
    (hW : DataW.Whole enc Try.prog Try.f6.params.toList Rows.packReadsSpec.vars false W args.toList ds gs before) :
    Calls Try.prog 6 args W fun e W' => ∃ v, e = .returned v ∧ Rows.packReadsSpec.post enc Try.prog Try.f6 false true false false W args v W' := by
  have hW' := hW
  obtain ⟨p, q, hA0, hV, rfl, _, _⟩ := hW
  have hA : DataW.TrodAll enc Try.prog W 0 (fun _ => true) true Try.f6.params.toList args.toList ds p := hA0
  rw [Try.params6] at hA hval
  obtain ⟨v0, v1, d0, d1, p0, p1, rfl, rfl, rfl, h0, h1⟩ := trodAll_two hA
  obtain ⟨rfl, rfl⟩ := trodVars_none hV
  obtain ⟨l, hl, hll⟩ := open_bytes Try.underlying27 Try.underlying5 (by kernel_rfl) (hval 0 27 v0 rfl rfl) h0
  obtain ⟨fs, hf, hfl, hok⟩ := open_fields Try.underlying41 Try.underlying46 (by kernel_rfl) rfl rfl rfl rfl (by kernel_rfl) (by kernel_rfl) (by kernel_rfl) (by kernel_rfl) Try.underlying3 Try.underlying3 Try.underlying37 Try.underlying9 (hval 1 41 v1 rfl rfl) h1
  refine (packReads_walk v0 v1 l fs W hl hf hll hfl hok).mono fun e W' ⟨he, hk⟩ => ?_
  subst he
  exact ⟨_, rfl, law_post Try.laidOut packReads_readable rfl Try.underlying4 rfl hW' rfl hk.below0⟩

set_option maxRecDepth 100000 in
theorem packReads_lifted (os : Os) (started : os.Started) (H : Type) (enc : TypeId × Value → H) :
    ReturnsInHanded {} Try.checked os 6 .any (Rows.packReadsSpec.pre6 enc Try.prog Try.f6 Rows.packReadsRow.domain false) (Rows.packReadsSpec.post enc Try.prog Try.f6 false true false false) := by
  refine returnsInHanded_of_change_sized (C := Try.checked) Try.own started (by kernel_rfl) Try.func6
    (ChangeSpec.witness6 (enc := enc) (C := Try.checked) false ⟨#[], #[.slice none 0 0, .slice none 0 0], []⟩ 8 (by kernel_rfl) (by kernel_rfl) (by kernel_rfl) (by kernel_rfl)) ?_
  intro W base args ds gs before hval hW _ _ _
  exact packReads_contract H enc W base args ds gs before hval hW

theorem packReads_holds : Rows.PackReadsSaid :=
  OpenClaim.holds_of_wide 6 Try.f6 rfl rfl rfl rfl rfl rfl rfl ⟨rfl, rfl, rfl, rfl, rfl⟩ rfl rfl rfl rfl rfl (by kernel_rfl) Try.func6 (by kernel_rfl)
    (of_decide_eq_true (by kernel_rfl)) (by unfold Func.isWrapper; first | (rw [if_pos (by decide +kernel)]; kernel_rfl) | (rw [if_neg (by decide +kernel)]; exact ⟨rfl, rfl⟩))
    (fun os started H enc _ => packReads_lifted os started H enc)

#print axioms packReads_holds
end Go.Proofs.Yteogkgjajhdhjaa
