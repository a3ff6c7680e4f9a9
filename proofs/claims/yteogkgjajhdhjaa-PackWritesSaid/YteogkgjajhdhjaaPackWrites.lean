/-
  PackWrites: a writer writes what the document says: the law returns true, for any room and any fields. No condition.
-/
import Derived.Test.YteogkgjajhdhjaaPackI
import Derived.Test.YteogkgjajhdhjaaPackWrong
namespace Go.Proofs.Yteogkgjajhdhjaa
open Go.RowKit

/-- the document's writer, of the call's own -/
structure LV (B : Nat) (w : World) (bk : Nat) (st : Pk.Wr) : Prop where
  isv : IsV w bk st
  hb : B ≤ bk

theorem LV.step {w0 w w' : World} {bk : Nat} {st st' : Pk.Wr} (h : LV w0.heap.size w bk st) (k : Keep [] w0 w) (o : VOut w w' bk st') : LV w0.heap.size w' bk st' ∧ Keep [] w0 w' ∧ Keep [bk] w w' :=
  ⟨⟨o.1, h.hb⟩, k.trans o.2 (fun x hx => Or.inr (by simp at hx; subst hx; exact h.hb)), o.2⟩

theorem LV.keep {F : List Nat} {B : Nat} {w w' : World} {bk : Nat} {st : Pk.Wr} (h : LV B w bk st) (k : Keep F w w') (hd : bk ∉ F) : LV B w' bk st := ⟨h.isv.keep k hd, h.hb⟩

theorem done_gen (bw : Nat) (v : Value) (st : Pk.Wr) (w : World) (h : IsW w bw v st) :
    Calls Try.prog 20 #[.pointer (some ⟨bw, 0, none⟩)] w fun e w' => ∃ ao c L, e = .returned (.tuple #[.slice ao L.length c, .bool (!st.bad)]) ∧ L = (if st.bad then [] else st.b) ∧ w'.ownsRow 0 5 1 (.slice ao L.length c) L.length (bv L) ∧ Keep [] w w' ∧ ∀ k ∈ rowOf (.slice ao L.length c), w.heap.size ≤ k := by
  refine (done_any bw v _ w h).mono ?_
  rintro e w' ⟨v', rfl, o, k, r⟩
  have hn : (if st.bad then 0 else st.b.length) = (if st.bad then [] else st.b).length := by split <;> rfl
  rw [hn] at o
  obtain ⟨_, ao, c, e, _⟩ := RdV.ofOwn o
  subst e
  exact ⟨ao, c, _, rfl, rfl, o, k, r⟩

/-- both writers have taken the same -/
theorem both {w w1 w2 w3 : World} {bw bk : Nat} {v : Value} {st st' : Pk.Wr} (K : Keep [] w w1) (L : LW w.heap.size w1 bw v st) (V : LV w.heap.size w1 bk st) (hd : bk ∉ wfp bw v) (o : WOut w1 w2 bw v st') (p : IsV w2 bk st → VOut w2 w3 bk st') :
    ∃ v', Keep [] w w3 ∧ LW w.heap.size w3 bw v' st' ∧ LV w.heap.size w3 bk st' ∧ bk ∉ wfp bw v' := by
  obtain ⟨v', L', K', k', r'⟩ := LW.step (w0 := w) L K o
  have V' := V.keep k' hd
  obtain ⟨V2, K2, k2⟩ := LV.step (w0 := w) V' K' (p V'.isv)
  have hd' : bk ∉ wfp bw v' := fun h => (r' bk h).elim hd (fun h => by have := V.isv.blk.lt; omega)
  exact ⟨v', K2, L'.keep k2 (fun x hx h => by simp at h; subst h; exact hd' hx), V2, hd'⟩

set_option maxRecDepth 100000 in
set_option maxHeartbeats 4000000 in
theorem packWrites_walk (most : Int) (vl : Value) (fs : List Fld) (w : World) (hl : RdV w vl fs.length 4 (fcells fs)) (_hfl : fs.length ≤ 9223372036854775807) (hok : ∀ f ∈ fs, f.Ok) :
    Calls Try.prog 8 #[.int .i64 most, vl] w fun e w' => e = .returned (.bool true) ∧ Keep [] w w' := by
  obtain ⟨hll, al, cl, rfl, hcl, hnnl, hxl⟩ := hl
  have HXL := Lib.hid hxl
  have HNL := Lib.hid hnnl
  have HOK := Lib.hid hok
  clear hll hxl hnnl hok
  obtain ⟨m, hm, hm1, hm2⟩ := mask12 most
  clear hm2
  go_enter Try.func8, Try.ntmps8
  go_wp2_with fail
  refine (shown_any w).mono ?_
  rintro e w1 ⟨rfl, k1⟩
  go_wp2_with fail
  refine (new_any m w1 (by omega)).mono ?_
  rintro e w2 ⟨rfl, h2, k2, _⟩
  obtain ⟨bw, hbw⟩ : ∃ bw, bw = w1.heap.size := ⟨_, rfl⟩
  have L2 : LW w.heap.size w2 bw (.slice none 0 0) ⟨[], m, false⟩ := by rw [hbw]; simpa using LW.new k1 h2
  rw [← hbw]
  have K2 : Keep [] w w2 := k1.trans k2 (by simp)
  clear hbw h2 hm k1 k2
  go_wp2_with fail
  refine (kwnew_any m w2 (by omega)).mono ?_
  rintro e w3 ⟨rfl, h3, k3⟩
  obtain ⟨bk, hbk⟩ : ∃ bk, bk = w2.heap.size := ⟨_, rfl⟩
  rw [← hbk] at h3 ⊢
  have V3 : LV w.heap.size w3 bk ⟨[], m, false⟩ := ⟨h3, by rw [hbk]; exact K2.size⟩
  have hd3 : bk ∉ wfp bw (.slice none 0 0) := fun h => by have := L2.lt bk h; omega
  have L3 := L2.keep k3 (by simp)
  have K3 : Keep [] w w3 := K2.trans k3 (by simp)
  clear hbk h3 k3 K2 L2
  go_wp2_with fail
  go_loopw [8] (fun i wr => ∃ (k : Nat) (v : Value) (st : Pk.Wr), k ≤ fs.length ∧ k ≤ 60 ∧ i = .int .i64 k ∧ Keep [] w wr ∧ LW w.heap.size wr bw v st ∧ LV w.heap.size wr bk st ∧ bk ∉ wfp bw v) (fun i _ => 60 - (intOf i).toNat)
  case atStart => exact ⟨0, _, _, Nat.zero_le _, Nat.zero_le _, rfl, K3, L3, V3, hd3⟩
  case round =>
    clear K3 L3 V3 hd3
    obtain ⟨k, v, st, hk, hk60, rfl, K, L, V, hd⟩ := hrel
    by_cases hlt : k < fs.length
    · by_cases h60 : k < 60
      · obtain ⟨a, rfl⟩ : ∃ a, al = some a := by
          cases al with
          | none => have := (HNL.out rfl).1; omega
          | some a => exact ⟨a, rfl⟩
        obtain ⟨f, hf⟩ : ∃ f, fs[k]? = some f := ⟨_, List.getElem?_eq_getElem hlt⟩
        have hokf := HOK.out f (List.mem_of_getElem? hf)
        obtain ⟨lt0, FC⟩ := field_cells HXL.out rfl hf
        obtain ⟨_, _, _, d3⟩ := FC wr K
        have HFC := Lib.hid FC
        have HO := Lib.hid hokf
        have hs1 := hokf.s1
        obtain ⟨s', hs', hl', _⟩ := cut_string f.s 300
        clear FC hokf hf
        go_upto_region 10 with fail
        go_cut [9] (fun s9 wx => s9 = .string s' ∧ Keep [] w wx ∧ LW w.heap.size wx bw v st ∧ LV w.heap.size wx bk st)
        case first =>
          by_cases hmin : 300 < f.s.size
          all_goals
            simp only [hmin, if_true, if_false] at hs'
            go_quiet (fail)
            go_wp2
            go_meet
            case rel => exact ⟨rfl, K.drewN nq, L.keep ((Keep.refl [] _).drewN nq) (by simp), V.keep ((Keep.refl [] _).drewN nq) (by simp)⟩
        case rest =>
          clear K L V d3 hs' hs1
          obtain ⟨rfl, K, L, V⟩ := hcut
          obtain ⟨d0, d1, d2, _⟩ := HFC.out wc K
          have HF := HFC
          go_upto_block 2 with fail
          go_cut [] (fun wx => ∃ (v' : Value) (st' : Pk.Wr), Keep [] w wx ∧ LW w.heap.size wx bw v' st' ∧ LV w.heap.size wx bk st' ∧ bk ∉ wfp bw v')
          case first =>
            go_wp2_with (first
              | (go_at_call 39; refine (byte_any bw v st f.n _ HO.out.n0 HO.out.n1 L.isw).mono ?_; rintro e w5 ⟨rfl, o5⟩; obtain ⟨v5, L5, K5, k5, r5⟩ := LW.step (w0 := w) L K o5; have V5 := V.keep k5 hd; obtain ⟨g0, g1, g2, _⟩ := HF.out w5 K5)
              | (go_at_call 43; refine (kwbyte_any bk st f.n _ HO.out.n0 HO.out.n1 V5.isv).mono ?_; rintro e w6 ⟨rfl, o6⟩; obtain ⟨V6, K6, k6⟩ := LV.step (w0 := w) V5 K5 o6)
              | (go_at_call 40; refine (word_any bw v st f.n _ HO.out.n0 HO.out.n1 L.isw).mono ?_; rintro e w5 ⟨rfl, o5⟩; obtain ⟨v5, L5, K5, k5, r5⟩ := LW.step (w0 := w) L K o5; have V5 := V.keep k5 hd; obtain ⟨g0, g1, g2, _⟩ := HF.out w5 K5)
              | (go_at_call 44; refine (kwword_any bk st f.n _ HO.out.n0 HO.out.n1 V5.isv).mono ?_; rintro e w6 ⟨rfl, o6⟩; obtain ⟨V6, K6, k6⟩ := LV.step (w0 := w) V5 K5 o6)
              | (go_at_call 41; refine (long_any bw v st f.v _ HO.out.v0 L.isw).mono ?_; rintro e w5 ⟨rfl, o5⟩; obtain ⟨v5, L5, K5, k5, r5⟩ := LW.step (w0 := w) L K o5; have V5 := V.keep k5 hd; obtain ⟨g0, g1, g2, _⟩ := HF.out w5 K5)
              | (go_at_call 45; refine (kwlong_any bk st f.v _ HO.out.v0 HO.out.v1 V5.isv).mono ?_; rintro e w6 ⟨rfl, o6⟩; obtain ⟨V6, K6, k6⟩ := LV.step (w0 := w) V5 K5 o6)
              | (go_at_call 19; refine (text_any bw v st s' _ (by omega) L.isw).mono ?_; rintro e w5 ⟨rfl, o5⟩; obtain ⟨v5, L5, K5, k5, r5⟩ := LW.step (w0 := w) L K o5; have V5 := V.keep k5 hd; obtain ⟨g0, g1, g2, _⟩ := HF.out w5 K5)
              | (go_at_call 46; refine (kwtext_any bk st s' _ (by omega) V5.isv).mono ?_; rintro e w6 ⟨rfl, o6⟩; obtain ⟨V6, K6, k6⟩ := LV.step (w0 := w) V5 K5 o6)
              | (go_at_call 47; refine (raw_any bw v st s' _ (by unfold maxLen; omega) L.isw).mono ?_; rintro e w5 ⟨rfl, o5⟩; obtain ⟨v5, L5, K5, k5, r5⟩ := LW.step (w0 := w) L K o5; have V5 := V.keep k5 hd; obtain ⟨g0, g1, g2, _⟩ := HF.out w5 K5)
              | (go_at_call 48; refine (kwraw_any bk st s' _ (by omega) V5.isv).mono ?_; rintro e w6 ⟨rfl, o6⟩; obtain ⟨V6, K6, k6⟩ := LV.step (w0 := w) V5 K5 o6)
              | (go_at_call 21; refine (fill_any bw v st f.n _ L.isw).mono ?_; rintro e w5 ⟨rfl, o5⟩; obtain ⟨v5, L5, K5, k5, r5⟩ := LW.step (w0 := w) L K o5; have V5 := V.keep k5 hd; obtain ⟨g0, g1, g2, _⟩ := HF.out w5 K5)
              | (go_at_call 49; refine (kwfill_any bk st f.n _ V5.isv).mono ?_; rintro e w6 ⟨rfl, o6⟩; obtain ⟨V6, K6, k6⟩ := LV.step (w0 := w) V5 K5 o6))
            all_goals
              go_meet
              case rel =>
                have hd5 : bk ∉ wfp bw v5 := fun h => (r5 bk h).elim hd (fun h => by have := V.isv.blk.lt; omega)
                exact ⟨_, _, K6, L5.keep k6 (fun x hx h => by simp at h; subst h; exact hd5 hx), V6, hd5⟩
          case rest =>
            clear K L V d0 d1 d2 HF HFC HO hd
            obtain ⟨v6, st6, K, L, V, hd⟩ := hcut
            go_wp2_with fail
            refine (done_gen bw v6 st6 _ L.isw).mono ?_
            rintro e w7 ⟨ao, c, B, rfl, hB, o7, k7, r7⟩
            have hBl : B.length ≤ 1000000 := by
              have h1 := L.isw.le
              have h2 := L.isw.cap
              rw [hB]
              split
              · simp
              · omega
            have K7 : Keep [] w w7 := K.trans k7 (by simp)
            have L7 := L.keep k7 (by simp)
            have V7 := V.keep k7 (by simp)
            have hrow : ∀ x ∈ rowOf (.slice ao B.length c), x ∉ wfp bw v6 ∧ x ≠ bk ∧ w.heap.size ≤ x := fun x hx => by
              have h1 := r7 x hx
              have h2 := K.size
              refine ⟨fun h => by have := L.lt x h; omega, fun h => by have := V.isv.blk.lt; omega, by omega⟩
            clear K L V k7 r7
            have HB := Lib.hid hB
            obtain ⟨ok, hok⟩ : ∃ ok, ok = !st6.bad := ⟨_, rfl⟩
            have HK := Lib.hid hok
            rw [← hok]
            clear hB hok
            obtain ⟨n, hn⟩ : ∃ n, n = B.length := ⟨_, rfl⟩
            have HN := Lib.hid hn
            have rd := RdV.ofOwn o7
            have hcv := conv_str rd
            have O7 := Lib.hid o7
            rw [← hn] at hcv hBl ⊢
            clear hn rd o7
            go_wp2_with fail
            refine (kwdone_any bk st6 _ V7.isv).mono ?_
            rintro e w8 ⟨rfl, rfl⟩
            rw [← HB.out, ← HK.out]
            go_wp2_with fail
            clear hcv
            go_loopw [14] (fun i ws => ∃ (j : Nat) (B' : List UInt8), j ≤ n ∧ i = .int .i64 j ∧ B'.length = n ∧ Hid (ws.ownsRow 0 5 1 (.slice ao B.length c) B.length (bv B')) ∧ Keep [] w ws ∧ LW w.heap.size ws bw v6 st6 ∧ LV w.heap.size ws bk st6) (fun i _ => n - (intOf i).toNat)
            case atStart => exact ⟨0, B, Nat.zero_le _, rfl, HN.out.symm, O7, K7, L7, V7⟩
            case round =>
              clear O7 K7 L7 V7
              obtain ⟨j, B', hj, rfl, hB', O, K, L, V⟩ := hrel
              by_cases hjn : j < n
              · obtain ⟨g, rfl⟩ : ∃ g, ao = some ⟨g, 0, none⟩ := by
                  have := HN.out
                  rcases slice_own O.out with ⟨_, h⟩ | ⟨g, c', h, _⟩
                  · omega
                  · cases h; exact ⟨g, rfl⟩
                obtain ⟨x, hx⟩ : ∃ x, B'[j]? = some x := ⟨_, List.getElem?_eq_getElem (by omega)⟩
                obtain ⟨c1, f1, o1⟩ := own_cell O.out hx
                have hc : n ≤ c := by
                  have := HN.out
                  rcases slice_own O.out with ⟨h, _⟩ | ⟨g, c', h, hc⟩
                  · cases h
                  · cases h; omega
                have O1 : Hid ((wr.setCell ⟨g, j, none⟩ (.int .u8 63)).ownsRow 0 5 1 (.slice (some ⟨g, 0, none⟩) B.length c) B.length (bv (B'.set j 63))) := Lib.hid (o1 63)
                have hlen : (B'.set j 63).length = n := by simpa using hB'
                have HLEN := Lib.hid hlen
                obtain ⟨hg1, hg2, hg3⟩ := hrow g (by simp [rowOf, Value.ownBlock])
                have K' : ∀ u, Keep [] w (wr.setCell ⟨g, j, none⟩ u) := fun u => K.setCell (Or.inr hg3) u
                have L' : ∀ u, LW w.heap.size (wr.setCell ⟨g, j, none⟩ u) bw v6 st6 := fun u => L.keep (F := [g]) ((Keep.refl _ _).setCell (Or.inl (by simp)) u) (fun y hy h => by simp at h; exact hg1 (h ▸ hy))
                have V' : ∀ u, LV w.heap.size (wr.setCell ⟨g, j, none⟩ u) bk st6 := fun u => V.keep (F := [g]) ((Keep.refl _ _).setCell (Or.inl (by simp)) u) (fun h => by simp at h; exact hg2 h.symm)
                clear o1 hlen hx hB' L V K hg1 hg2 hg3
                go_wp2
                exact ⟨⟨j + 1, _, by omega, by go_num, HLEN.out, O1, K' _, L' _, V' _⟩, by simp [intOf]; omega⟩
              · go_wp2
                exact ⟨⟨k + 1, v6, st6, by omega, by omega, by go_num, K, L, V, hd⟩, by simp [intOf]; omega⟩
      · go_wp2
        go_ret
        exact ⟨rfl, K⟩
    · go_wp2
      go_ret
      exact ⟨rfl, K⟩


theorem packWrites_readable : Try.f8.params.toList.all (fun t => Try.prog.readableRec t && decide (t < Try.prog.types.size)) = true := by kernel_rfl

open Go.ChangeShapes Go.WideShapes Go.ChangeAt in
set_option maxRecDepth 100000 in
theorem packWrites_contract (H : Type) (enc : TypeId × Value → H) (W : World) (base : Nat) (args : Array Value) (ds gs : List (DataW H)) (before : List MemPlace)
    (hval : ∀ (j : Nat) t v, Try.f8.params[j]? = some t → args[j]? = some v → Value.okWide Try.prog W .any base t v)
    (hW : DataW.Whole enc Try.prog Try.f8.params.toList Rows.packWritesSpec.vars false W args.toList ds gs before) :
    Calls Try.prog 8 args W fun e W' => ∃ v, e = .returned v ∧ Rows.packWritesSpec.post enc Try.prog Try.f8 false true false false W args v W' := by
  have hW' := hW
  obtain ⟨p, q, hA0, hV, rfl, _, _⟩ := hW
  have hA : DataW.TrodAll enc Try.prog W 0 (fun _ => true) true Try.f8.params.toList args.toList ds p := hA0
  rw [Try.params8] at hA hval
  obtain ⟨v0, v1, d0, d1, p0, p1, rfl, rfl, rfl, h0, h1⟩ := trodAll_two hA
  obtain ⟨rfl, rfl⟩ := trodVars_none hV
  obtain ⟨a0, rfl, rfl, rfl, w0⟩ := open_int Try.underlying3 (hval 0 3 v0 rfl rfl) h0
  obtain ⟨fs, hf, hfl, hok⟩ := open_fields Try.underlying41 Try.underlying46 (by kernel_rfl) rfl rfl rfl rfl (by kernel_rfl) (by kernel_rfl) (by kernel_rfl) (by kernel_rfl) Try.underlying3 Try.underlying3 Try.underlying37 Try.underlying9 (hval 1 41 v1 rfl rfl) h1
  refine (packWrites_walk a0 v1 fs W hf hfl hok).mono fun e W' ⟨he, hk⟩ => ?_
  subst he
  exact ⟨_, rfl, law_post Try.laidOut packWrites_readable rfl Try.underlying4 rfl hW' rfl hk.below0⟩

set_option maxRecDepth 100000 in
theorem packWrites_lifted (os : Os) (started : os.Started) (H : Type) (enc : TypeId × Value → H) :
    ReturnsInHanded {} Try.checked os 8 .any (Rows.packWritesSpec.pre6 enc Try.prog Try.f8 Rows.packWritesRow.domain false) (Rows.packWritesSpec.post enc Try.prog Try.f8 false true false false) := by
  refine returnsInHanded_of_change_sized (C := Try.checked) Try.own started (by kernel_rfl) Try.func8
    (ChangeSpec.witness6 (enc := enc) (C := Try.checked) false ⟨#[], #[.int .i64 0, .slice none 0 0], []⟩ 8 (by kernel_rfl) (by kernel_rfl) (by kernel_rfl) (by kernel_rfl)) ?_
  intro W base args ds gs before hval hW _ _ _
  exact packWrites_contract H enc W base args ds gs before hval hW

theorem packWrites_holds : Rows.PackWritesSaid :=
  OpenClaim.holds_of_wide 8 Try.f8 rfl rfl rfl rfl rfl rfl rfl ⟨rfl, rfl, rfl, rfl, rfl⟩ rfl rfl rfl rfl rfl (by kernel_rfl) Try.func8 (by kernel_rfl)
    (of_decide_eq_true (by kernel_rfl)) (by unfold Func.isWrapper; first | (rw [if_pos (by decide +kernel)]; kernel_rfl) | (rw [if_neg (by decide +kernel)]; exact ⟨rfl, rfl⟩))
    (fun os started H enc _ => packWrites_lifted os started H enc)

#print axioms packWrites_holds
end Go.Proofs.Yteogkgjajhdhjaa
