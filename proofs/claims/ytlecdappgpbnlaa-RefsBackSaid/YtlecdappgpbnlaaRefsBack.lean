/-
  RefsBack: what is needed no more is free, and just that: the law returns true, for any number of blocks, any marks, any order. No condition.
-/
import Derived.Test.YtlecdappgpbnlaaRfF
import Derived.Test.YtlecdappgpbnlaaRefsTakes
import Derived.Deep.DeepCutAuto
import Derived.Deep.CutBlock
namespace Go.Proofs.Ytlecdappgpbnlaa
open Go.RowKit

/-- the counts cs are those of the list held, whose numbers are blocks below B -/
structure Held (B : Nat) (cs held : List Int) : Prop where
  len : cs.length = B
  cnt : ∀ j : Nat, cs.getD j 0 = held.count (j : Int)
  inn : ∀ x ∈ held, 2 ≤ x ∧ x < (B : Int)

theorem Held.start (B : Nat) : Held B (List.replicate B 0) [] :=
  ⟨List.length_replicate, fun j => by simp only [List.getD, List.getElem?_replicate]; split <;> simp, fun x h => by cases h⟩

theorem Held.more {B : Nat} {cs held : List Int} {q : Nat} (h : Held B cs held) (h2 : 2 ≤ q) (hq : q < B) : Held B (cs.set q (cs.getD q 0 + 1)) (held ++ [(q : Int)]) := by
  refine ⟨by rw [List.length_set]; exact h.len, fun j => ?_, fun x hx => ?_⟩
  · rw [cs_set _ _ _ _ (by rw [h.len]; exact hq), List.count_append, List.count_singleton]
    by_cases e : j = q
    · subst e; rw [if_pos rfl, h.cnt j]; simp
    · rw [if_neg e, h.cnt j]
      have : ((q : Int) == (j : Int)) = false := by rw [beq_eq_false_iff_ne]; omega
      simp [this]
  · rcases List.mem_append.1 hx with hx | hx
    · exact h.inn x hx
    · rw [List.mem_singleton] at hx; subst hx; omega

theorem Held.less {B : Nat} {cs held : List Int} {q k : Nat} (h : Held B cs held) (hk : held[k]? = some (q : Int)) (hq : q < B) : Held B (cs.set q (cs.getD q 0 - 1)) (held.take k ++ held.drop (k + 1)) := by
  have hlt : k < held.length := (List.getElem?_eq_some_iff.1 hk).1
  have hsplit : held = held.take k ++ ((q : Int) :: held.drop (k + 1)) := by
    conv => lhs; rw [← List.take_append_drop k held]
    rw [List.drop_eq_getElem_cons hlt, (List.getElem?_eq_some_iff.1 hk).2]
  refine ⟨by rw [List.length_set]; exact h.len, fun j => ?_, fun x hx => ?_⟩
  · have hc : held.count (j : Int) = (held.take k ++ held.drop (k + 1)).count (j : Int) + if (q : Int) = (j : Int) then 1 else 0 := by
      conv => lhs; rw [hsplit]
      rw [List.count_append, List.count_append, List.count_cons]
      by_cases e : (q : Int) = (j : Int)
      · rw [if_pos e]; simp [e]; omega
      · rw [if_neg e]
        have : ((q : Int) == (j : Int)) = false := by rw [beq_eq_false_iff_ne]; exact e
        simp [this]
    rw [cs_set _ _ _ _ (by rw [h.len]; exact hq)]
    by_cases e : j = q
    · subst e; rw [if_pos rfl] at hc; rw [if_pos rfl, h.cnt j, hc]; omega
    · rw [if_neg (by omega)] at hc; rw [if_neg e, h.cnt j, hc]; rfl
  · apply h.inn
    rcases List.mem_append.1 hx with hx | hx
    · exact List.mem_of_mem_take hx
    · exact List.mem_of_mem_drop hx

theorem Held.pos {B : Nat} {cs held : List Int} {q k : Nat} (h : Held B cs held) (hk : held[k]? = some (q : Int)) : 1 ≤ cs.getD q 0 ∧ cs.getD q 0 ≤ held.length := by
  rw [h.cnt q]
  have h1 : 0 < held.count (q : Int) := List.count_pos_iff.2 (List.mem_of_getElem? hk)
  have h2 := List.count_le_length (a := (q : Int)) (l := held)
  omega

theorem Held.le {B : Nat} {cs held : List Int} (h : Held B cs held) (q : Nat) : 0 ≤ cs.getD q 0 ∧ cs.getD q 0 ≤ held.length := by
  rw [h.cnt q]
  have h2 := List.count_le_length (a := (q : Int)) (l := held)
  omega

theorem Held.done {B : Nat} {cs : List Int} (h : Held B cs []) (k : Int) : fC cs k = 0 := by
  unfold fC
  split
  · rw [h.cnt]; rfl
  · rfl

set_option maxRecDepth 100000 in
set_option maxHeartbeats 6400000 in
theorem refsBack_walk (blocks : Int) (v u : Value) (zs os : List Int) (w : World) (hrd : RdV w v zs.length 1 (zs.map (Value.int .i64))) (_hzl : zs.length ≤ 9223372036854775807) (hro : RdV w u os.length 1 (os.map (Value.int .i64))) (hol : os.length ≤ 9223372036854775807) :
    Calls Try.prog 6 #[.int .i64 blocks, v, u] w fun e w' => e = .returned (.bool true) ∧ Keep [] w w' := by
  obtain ⟨hl, ao, cap, rfl, hc, hnn, hcx⟩ := hrd
  obtain ⟨hl2, bo, dap, rfl, hd, hnn2, hdx⟩ := hro
  have HX := Lib.hid hcx
  have Hnn := Lib.hid hnn
  have HOX := Lib.hid hdx
  have HOnn := Lib.hid hnn2
  clear hl hcx hnn hl2 hdx hnn2
  obtain ⟨i0, hi, hz0, hz1, hz2⟩ := info_parts info3
  go_enter Try.func6, Try.ntmps6
  go_wp2_with fail
  refine (shown_any w).mono ?_
  rintro e w1 ⟨rfl, k1⟩
  obtain ⟨m, hm, hm1, hmm⟩ := mask16 blocks
  clear hmm
  obtain ⟨B, hB, hB3, hB5⟩ : ∃ B : Nat, 3 + (m : Int) % 1000 = (B : Int) ∧ 3 ≤ B ∧ B ≤ 1002 := ⟨3 + m % 1000, by omega, by omega, by omega⟩
  have hB3I : (3 : Int) ≤ (B : Int) := by omega
  have hB5I : (B : Int) ≤ 1002 := by omega
  go_wp2_with fail
  clear hm
  refine (lnew B w w1 k1 (by omega) (by omega) B (by omega)).mono ?_
  rintro e w2 ⟨r, bm, rfl, h2, k2, g1, g2⟩
  have K2 := k1.trans k2 (by simp)
  have HBE := Lib.hid hB
  clear k1 k2 hB
  go_wp2_with fail
  refine (lnew B w w2 K2 (by omega) (by omega) B (by omega)).mono ?_
  rintro e w3 ⟨r', bm', rfl, h3, k3, g3, g4⟩
  have K3 := K2.trans k3 (by simp)
  have hsep : r ≠ r' ∧ r ≠ bm' ∧ bm ≠ r' ∧ bm ≠ bm' := by have := h2.lt; omega
  have h2 := h2.keep k3 (by simp) (by simp)
  have L2 := h2.congr (g := fC (List.replicate B 0)) (fun k => fC_zero B k)
  obtain ⟨w5, hmk, bF, kF⟩ := make_blk (P := Try.prog) w3 22 3 i0 (.int .i64 0) Try.underlying22 hi hz0 hz1 rfl B (by rw [hz2]; omega) (by omega)
  obtain ⟨fb, hfb⟩ : ∃ b, b = w3.heap.size := ⟨_, rfl⟩
  rw [← hfb] at hmk bF
  have L5 := L2.keep kF (by simp) (by simp)
  have F5 := h3.keep kF (by simp) (by simp)
  have K5 := K3.trans kF (by simp)
  have hfsep : r ≠ fb ∧ bm ≠ fb ∧ r' ≠ fb ∧ bm' ≠ fb := by have := h2.lt; have := h3.lt; omega
  have hfw : w.heap.size ≤ fb := by rw [hfb]; exact K3.size
  have hlt5 : r < w5.heap.size ∧ bm < w5.heap.size ∧ r' < w5.heap.size ∧ bm' < w5.heap.size ∧ fb < w5.heap.size := by have := L5.lt; have := F5.lt; have := bF.lt; omega
  have bF' : Blk w5 fb ((List.replicate B (0 : Int)).map (Value.int .i64)) 3 := by simpa using bF
  have hr := L5.hr
  have hbm := L5.hm
  have hr' := F5.hr
  have hbm' := F5.hm
  clear h2 h3 L2 K2 K3 kF bF k3 g1 g2 g3 g4 hfb
  obtain ⟨s1, s2, s3, s4⟩ := hsep
  obtain ⟨t1, t2, t3, t4⟩ := hfsep
  obtain ⟨u1, u2, u3, u4, u5⟩ := hlt5
  go_wp2
  clear hmk
  go_loopw [10, 12] (fun hs i wr => ∃ (k : Nat) (cs held : List Int), k ≤ zs.length ∧ k ≤ 300 ∧ i = .int .i64 k ∧ held.length = k ∧ Held B cs held ∧ wr.ownsRow 0 3 1 hs k (held.map (Value.int .i64)) ∧ (∀ x ∈ rowOf hs, w5.heap.size ≤ x) ∧ Blk wr fb (cs.map (Value.int .i64)) 3 ∧ LRf w.heap.size wr r bm (fC cs) B ∧ Keep [r, bm, fb] w5 wr) (fun _ i _ => 300 - (intOf i).toNat)
  case atStart => exact ⟨0, _, [], Nat.zero_le _, Nat.zero_le _, rfl, rfl, Held.start B, World.ownsRow_nil _ _ _ _, by simp [rowOf, Value.ownBlock], bF', L5, Keep.refl _ _⟩
  case round =>
    clear bF' L5
    obtain ⟨k, cs, held, hkl, hk300, rfl, hhl, hH, hown, hrow, bF, L, K⟩ := hrel
    have HH := Lib.hid (And.intro hhl hH)
    have HR := Lib.hid hrow
    clear hhl hH hrow
    obtain ⟨hao, hcap, rfl⟩ := slice_of_own6 hown
    by_cases hin : k < zs.length ∧ k < 300
    · obtain ⟨hlt, h300⟩ := hin
      obtain ⟨a, rfl⟩ : ∃ a, ao = some a := by
        cases ao with
        | none => have := (Hnn.out rfl).1; omega
        | some a => exact ⟨a, rfl⟩
      obtain ⟨z, hz⟩ : ∃ z, zs[k]? = some z := ⟨_, List.getElem?_eq_getElem hlt⟩
      have hc0 : w.cell? (a.add k) = some (.int .i64 z) := HX.out a rfl k _ (by simp [hz])
      have hcell : wr.cell? (a.add k) = some (.int .i64 z) := by
        have hb := World.block_lt_of_cell? w _ hc0
        have := K5.size
        rw [K.cell (by omega) (by simp; omega), K5.cell hb (by simp)]; exact hc0
      obtain ⟨m2, hm2, hm2b, hmm⟩ := mask24 z
      obtain ⟨q, hq, hq2, hqB⟩ : ∃ q : Nat, 2 + (m2 : Int) % ((B : Int) - 2) = (q : Int) ∧ 2 ≤ q ∧ q < B := by
        have h1 := Int.emod_nonneg (m2 : Int) (show (B : Int) - 2 ≠ 0 by omega)
        have h2 := Int.emod_lt_of_pos (m2 : Int) (show 0 < (B : Int) - 2 by omega)
        exact ⟨(2 + (m2 : Int) % ((B : Int) - 2)).toNat, by omega, by omega, by omega⟩
      clear hc0 hz hmm
      have hqBI : (q : Int) < (B : Int) := by omega
      obtain ⟨c, hcq⟩ : ∃ c, c = cs.getD q 0 := ⟨_, rfl⟩
      have hcl := HH.out.2.le q
      have hc0 : 0 ≤ c := by rw [hcq]; exact hcl.1
      have hc3 : c ≤ 300 := by have := HH.out.1; rw [hcq]; omega
      have HCQ := Lib.hid hcq
      clear hcq hcl
      go_wp2_with fail
      clear hm2 hcell
      refine (lmark (q : Int) L (by omega) (by omega) (by rw [fC_at _ hq2, ← HCQ.out]; omega) _ (by rw [fC_at _ hq2, ← HCQ.out])).mono ?_
      rintro e w6 ⟨rfl, L6, k6⟩
      have L7 := L6.congr (g := fC (cs.set q (c + 1))) (fun i => by rw [fC_at _ hq2, ← HCQ.out]; exact fC_set cs hq2 (by have := HH.out.2.len; omega) (c + 1) i)
      have K7 : Keep [r, bm, fb] w5 w6 := K.trans k6 (by simp)
      have bF7 := bF.keep k6 (by simp; omega)
      have o7 := ownsRow_keep hown k6 (fun x hx hx' => by have := HR.out x hx; simp at hx'; omega)
      clear L6 L k6 K bF hown
      have FA := Lib.hid (run_app_slice (P := Try.prog) (w6.alloc (.cells #[.int .i64 (q : Int)] 3)) 22 22 3 i0 _ 1 8 Try.underlying22 hi hz0 hz1 hz2 rfl (by decide) _ k _ (o7.alloc (.cells #[.int .i64 (q : Int)] 3)) (some ⟨w6.heap.size, 0, none⟩) 1 1 [.int .i64 (q : Int)] rfl (fun h => by cases h) (by intro a ha; cases ha; exact World.news_of_block (heap_alloc_new _ _)) (fun u hu => by simp at hu; subst hu; rfl) (by unfold maxLen; omega) (by omega))
      go_wp2_with (first
        | (at_builtin; refine wpList_app rfl (.tmp 67) (.tmp 69) 22 22 rfl _ _ rfl rfl FA.out ?_; intro hv w8 hO; obtain ⟨ao8, cp8, rfl⟩ := hO.slice; have kA : Keep (rowOf (.slice hao k hcap)) w6 w8 := (((Keep.refl [] w6).alloc (.cells #[.int .i64 (q : Int)] 3)).mono (by simp)).grown hO.2.1 (fun x hx => Or.inl (mem_rowOf.2 hx)); have bF8 := bF7.keep kA (fun hx => by have := HR.out _ hx; omega); have cq := (bF8.cell q).trans (cs_some (by have := HH.out.2.len; omega) HCQ.out.symm); have fq := bF8.free q))
      have cfix : (rowOf (.slice ao8 (k + 1) cp8)).all (fun x => decide (w5.heap.size ≤ x)) = true := by
        rw [List.all_eq_true]
        intro x hx
        have h1 := hO.2.2 x hx
        have h2 := K7.size
        have h3 : (w6.alloc (.cells #[.int .i64 (q : Int)] 3)).heap.size = w6.heap.size + 1 := World.size_alloc _ _
        rcases h1 with h1 | h1
        · have := HR.out x h1; simpa using this
        · simp; omega
      have hrows : ∀ x ∈ rowOf (.slice ao8 (k + 1) cp8), w5.heap.size ≤ x := fun x hx => by simpa using List.all_eq_true.1 cfix x hx
      have kS : Keep [fb] w8 (w8.setCell ⟨fb, q, none⟩ (.int .i64 (c + 1))) := (Keep.refl _ _).setCell (Or.inl (by simp)) _
      have oS := ownsRow_keep hO.1 kS (fun x hx hx' => by have := hrows x hx; simp at hx'; omega)
      have L8 := (L7.keep kA (fun hx => by have := HR.out _ hx; omega) (fun hx => by have := HR.out _ hx; omega)).keep kS (by simp; omega) (by simp; omega)
      have K8 : Keep [r, bm, fb] w5 (w8.setCell ⟨fb, q, none⟩ (.int .i64 (c + 1))) := (K7.trans kA (fun x hx => Or.inr (HR.out x hx))).setCell (Or.inl (by simp)) _
      have bS := bF8.set q (.int .i64 (c + 1))
      go_roundw
      case rel =>
        refine ⟨k + 1, cs.set q (c + 1), held ++ [(q : Int)], by omega, by omega, by go_num, by rw [List.length_append, HH.out.1]; rfl, by rw [HCQ.out]; exact HH.out.2.more hq2 hqB, by rw [List.map_append]; exact oS, hrows, by rw [List.map_set]; exact bS, L8, K8⟩
      case measure => simp [intOf]; omega
    · have hin' : k < zs.length → 300 ≤ k := fun h => by omega
      clear hin
      by_cases hlt : k < zs.length
      · have h300 := hin' hlt
        clear hin'
        go_wp2
        obtain ⟨wo2, rfl⟩ : ∃ wo2 : World, wo2 = wr := ⟨_, rfl⟩
        go_loopw [10, 16] (fun hs i wr => ∃ (i' : Nat) (cs held : List Int), i = .int .i64 i' ∧ i' + held.length ≤ 300 ∧ Held B cs held ∧ wr.ownsRow 0 3 1 hs held.length (held.map (Value.int .i64)) ∧ (∀ x ∈ rowOf hs, w5.heap.size ≤ x) ∧ Blk wr fb (cs.map (Value.int .i64)) 3 ∧ LRf w.heap.size wr r bm (fC cs) B ∧ Keep [r, bm, fb] w5 wr) (fun hs _ _ => match hs with | .slice _ n _ => n | _ => 0)
        case atStart => exact ⟨0, cs, held, rfl, by have := HH.out.1; omega, HH.out.2, by rw [HH.out.1]; exact hown, HR.out, bF, L, K⟩
        case round =>
          clear bF L K HH HR hown
          obtain ⟨i, cs, held, rfl, hi3, hH, hown, hrow, bF, L, K⟩ := hrel
          obtain ⟨n, hn⟩ : ∃ n, n = held.length := ⟨_, rfl⟩
          rw [← hn] at hown hi3
          have HH := Lib.hid (And.intro hn.symm hH)
          have HR := Lib.hid hrow
          clear hn hH hrow
          by_cases hn0 : 0 < n
          · obtain ⟨g, hcap2, rfl, hg0, hglt⟩ := hown.form hn0
            have hnI : (0 : Int) < (n : Int) := by omega
            go_upto_if 85 with fail
            go_cut [17] (fun s17 wx => ∃ kx : Nat, s17 = .int .i64 kx ∧ kx < n ∧ wr = wx)
            case first =>
              by_cases hio : i < os.length
              · obtain ⟨b, rfl⟩ : ∃ a, bo = some a := by
                  cases bo with
                  | none => have := (HOnn.out rfl).1; omega
                  | some a => exact ⟨a, rfl⟩
                obtain ⟨z, hz⟩ : ∃ z, os[i]? = some z := ⟨_, List.getElem?_eq_getElem hio⟩
                have hc0 : w.cell? (b.add i) = some (.int .i64 z) := HOX.out b rfl i _ (by simp [hz])
                have hcell : wr.cell? (b.add i) = some (.int .i64 z) := by
                  have hb := World.block_lt_of_cell? w _ hc0
                  have := K5.size
                  rw [K.cell (by omega) (by simp; omega), K5.cell hb (by simp)]; exact hc0
                obtain ⟨m2, hm2, hm2b, hmm⟩ := mask16 z
                obtain ⟨kx, hkq, hkx⟩ : ∃ kx : Nat, (m2 : Int) % (n : Int) = (kx : Int) ∧ kx < n := by
                  have h1 := Int.emod_nonneg (m2 : Int) (show (n : Int) ≠ 0 by omega)
                  have h2 := Int.emod_lt_of_pos (m2 : Int) hnI
                  exact ⟨((m2 : Int) % (n : Int)).toNat, by omega, by omega⟩
                clear hc0 hz hmm
                go_wp2
                go_meet
                case rel => exact ⟨kx, by go_num, hkx, rfl⟩
              · go_wp2
                go_meet
                case rel => exact ⟨0, by go_num, hn0, rfl⟩
            case rest =>
              obtain ⟨kx, rfl, hkn, rfl⟩ := hcut
              have hkx : kx < held.length := by have := HH.out.1; omega
              obtain ⟨x, hx⟩ : ∃ x, held[kx]? = some x := ⟨_, List.getElem?_eq_getElem hkx⟩
              have hxin := HH.out.2.inn x (List.mem_of_getElem? hx)
              obtain ⟨q, rfl⟩ := Int.eq_ofNat_of_zero_le (show 0 ≤ x by omega)
              have hq2 : 2 ≤ q := by omega
              have hqB : q < B := by omega
              have hqBI : (q : Int) < (B : Int) := by omega
              have hkxI : (kx : Int) < (n : Int) := by omega
              have ch : wr.cell? ⟨g, kx, none⟩ = some (.int .i64 (q : Int)) := by
                have := hown.cells (g := g) rfl kx _ (by rw [List.getElem?_map, hx]; rfl)
                rw [Addr.add_lit] at this
                simpa using this
              have hpos := HH.out.2.pos hx
              obtain ⟨c, hcq⟩ : ∃ c, c = cs.getD q 0 := ⟨_, rfl⟩
              have hc1 : 1 ≤ c := by rw [hcq]; exact hpos.1
              have hc3 : c ≤ 300 := by have := HH.out.1; rw [hcq]; omega
              have HCQ := Lib.hid hcq
              have HXX := Lib.hid hx
              clear hcq hpos hxin hx
              go_wp2_with fail
              refine (ldec (q : Int) L (by omega) (by omega) (by rw [fC_at _ hq2, ← HCQ.out]; omega) (by rw [fC_at _ hq2, ← HCQ.out]; omega) _ (by rw [fC_at _ hq2, ← HCQ.out])).mono ?_
              rintro e w6 ⟨rfl, L6, k6⟩
              have L7 := L6.congr (g := fC (cs.set q (c - 1))) (fun i => by rw [fC_at _ hq2, ← HCQ.out]; exact fC_set cs hq2 (by have := HH.out.2.len; omega) (c - 1) i)
              have K7 : Keep [r, bm, fb] w5 w6 := K.trans k6 (by simp)
              have bF7 := bF.keep k6 (by simp; omega)
              have o7 := ownsRow_keep hown k6 (fun x hx hx' => by have := HR.out x hx; simp at hx'; omega)
              have cq := (bF7.cell q).trans (cs_some (by have := HH.out.2.len; omega) HCQ.out.symm)
              have fq := bF7.free q
              have bS := bF7.set q (.int .i64 (c - 1))
              have kS : Keep [fb] w6 (w6.setCell ⟨fb, q, none⟩ (.int .i64 (c - 1))) := (Keep.refl _ _).setCell (Or.inl (by simp)) _
              have LS := L7.keep kS (by simp; omega) (by simp; omega)
              have KS : Keep [r, bm, fb] w5 (w6.setCell ⟨fb, q, none⟩ (.int .i64 (c - 1))) := K7.setCell (Or.inl (by simp)) _
              have oS := ownsRow_keep o7 kS (fun x hx hx' => by have := HR.out x hx; simp at hx'; omega)
              clear L6 L k6 K bF hown ch L7 K7 bF7 o7
              obtain ⟨wS, hwS⟩ : ∃ x, x = w6.setCell ⟨fb, q, none⟩ (.int .i64 (c - 1)) := ⟨_, rfl⟩
              rw [← hwS] at bS kS LS KS oS
              have HWS := Lib.hid hwS
              clear hwS kS
              have hH2 := HH.out.2.less HXX.out hqB
              rw [← HCQ.out] at hH2
              have H2 := Lib.hid hH2
              have cq2 := (bS.cell q).trans (show ((cs.map (Value.int .i64)).set q (.int .i64 (c - 1)))[q]? = some (.int .i64 (c - 1)) by rw [List.getElem?_set_self (by rw [List.length_map, HH.out.2.len]; exact hqB)])
              have hq0 : (0 : Int) ≤ (q : Int) := by omega
              have qq : ∀ t, Calls Try.prog 14 #[.pointer (some ⟨r, 0, none⟩), .int .i64 (q : Int)] (wS.drewN t) fun e w' => e = .returned (.int .i64 (c - 1)) ∧ w' = wS.drewN t := fun t =>
                (lcount (LS.keep ((Keep.refl [] wS).drewN t) (by simp) (by simp)) (q : Int) (by omega) (by omega)).mono fun e w' ⟨he, hw⟩ => ⟨by rw [he, fC_at _ hq2, cs_set _ _ _ _ (by rw [HH.out.2.len]; exact hqB), if_pos rfl], hw.symm⟩
              clear hH2
              have hsub : IntKind.i64.wrap (c - 1) = c - 1 := IntWalk.i64_in _ (by omega)
              by_cases hc11 : c = 1
              all_goals
                first
                  | have hcb : (c == 1) = true := by rw [beq_iff_eq]; exact hc11
                  | have hcb : (c == 1) = false := by rw [beq_eq_false_iff_ne]; exact hc11
                first
                  | have hcb2 : (c - 1 == 0) = true := by rw [beq_iff_eq]; omega
                  | have hcb2 : (c - 1 == 0) = false := by rw [beq_eq_false_iff_ne]; omega
                clear hc11
                go_wp2
                rw [← HWS.out]
                go_quiet ((go_at_call 14; exact Calls.quiet_of_same (qq _)))
                have bq := bS.keep ((Keep.refl [] wS).drewN nq) (by simp)
                have Lq := LS.keep ((Keep.refl [] wS).drewN nq) (by simp) (by simp)
                have Kq := KS.drewN nq
                have oq := ownsRow_keep oS ((Keep.refl [] wS).drewN nq) (by simp)
                clear bS LS KS oS qq cq cq2 fq hcb hcb2 hsub HWS
                generalize wS.drewN nq = wq at *
                have hlh : held.length = n := HH.out.1
                have HLH := Lib.hid hlh
                clear hlh
                have hnc : n ≤ hcap2 := by
                  rcases oq.2 with ⟨h1, h2⟩ | ⟨g', c', cur', h1, _, _, h2, _⟩
                  · cases h1
                  · cases h1; exact h2
                have hncI : (n : Int) ≤ (hcap2 : Int) := by omega
                have hkc : (kx : Int) ≤ (hcap2 : Int) := by omega
                have hk0 : (0 : Int) ≤ (kx : Int) := by omega
                have hk1 : (kx : Int) + 1 ≤ (n : Int) := by omega
                have hk2 : (kx : Int) + 1 ≤ (hcap2 : Int) := by omega
                have NA : ∀ W, Keep [] wq W → ∀ a, some (⟨g, 0, none⟩ : Addr) = some a → ∀ j u, ((held.take kx).map (Value.int .i64))[j]? = some u → W.cell? (a.add j) = some u := fun W K a ha j u hu => by
                  cases ha
                  have h1 : (held.map (Value.int .i64))[j]? = some u := by
                    rw [List.getElem?_map] at hu ⊢
                    rw [List.getElem?_take] at hu
                    split at hu
                    · exact hu
                    · cases hu
                  have h2 := oq.cells (g := g) rfl j u h1
                  rw [K.cell (World.block_lt_of_cell? _ _ h2) (by simp)]
                  exact h2
                have NB : ∀ W, Keep [] wq W → ∀ j u, ((held.drop (kx + 1)).map (Value.int .i64))[j]? = some u → W.cell? ⟨g, kx + 1 + j, none⟩ = some u := fun W K j u hu => by
                  have h1 : (held.map (Value.int .i64))[kx + 1 + j]? = some u := by
                    rw [List.getElem?_map] at hu ⊢
                    rw [List.getElem?_drop] at hu
                    exact hu
                  have h2 := oq.cells (g := g) rfl (kx + 1 + j) u h1
                  rw [Addr.add_lit, Nat.zero_add] at h2
                  rw [K.cell (World.block_lt_of_cell? _ _ h2) (by simp)]
                  exact h2
                have LA : ((held.take kx).map (Value.int .i64)).length = kx * 1 := by rw [List.length_map, List.length_take, HLH.out]; omega
                have LB : ((held.drop (kx + 1)).map (Value.int .i64)).length = (n - (kx + 1)) * 1 := by rw [List.length_map, List.length_drop, HLH.out]; omega
                have HNB := Lib.hid NB
                have HLB := Lib.hid LB
                have FA := Lib.hid (run_app_slice (P := Try.prog) (wq.alloc (.cells #[] 3)).drew 22 22 3 i0 _ 1 8 Try.underlying22 hi hz0 hz1 hz2 rfl (by decide) _ 0 [] (ownsRow_made0 wq 3 1).drew (some ⟨g, 0, none⟩) kx hcap2 ((held.take kx).map (Value.int .i64)) LA (fun h => by cases h) (NA _ ((Keep.refl [] wq).alloc (.cells #[] 3)).drew) (fun u hu => by obtain ⟨y, _, rfl⟩ := List.mem_map.1 hu; rfl) (by unfold maxLen; omega) (by omega))
                simp only [Nat.zero_add, List.nil_append] at FA
                clear NA NB LA LB
                have hcs : ¬ (hcap2 = kx + 1) → ¬ ((kx : Int) + 1 = (hcap2 : Int)) := fun h => by omega
                by_cases hcc : hcap2 = kx + 1
                · clear hcs
                  have hcc2 : (hcap2 = kx + 1) = True := eq_true hcc
                  have HCC := Lib.hid hcc
                  clear hcc
                  go_wp2
                  have hs1 : IntKind.i64.wrap ((kx : Int) + 1) = (kx : Int) + 1 := IntWalk.i64_in _ (by omega)
                  have hs2 : 0 ≤ (kx : Int) + 1 := by omega
                  have hs3 : ((kx : Int) + 1).toNat = kx + 1 := by omega
                  go_region_held3 (fun _ => True) (trivial)
                    (first
                      | ((with_reducible show (if _ = true then Oper.wp _ _ _ ((wq.alloc (.cells #[] 3)).drew) _ _ else _)); refine step_app rfl (.tmp 131) (.tmp 134) 22 22 rfl _ _ rfl rfl FA.out ?_; intro v2 w10 hO; obtain ⟨ao2, cp2, rfl⟩ := hO.slice; have kB : Keep [] wq w10 := (((Keep.refl [] wq).alloc (.cells #[] 3)).drew).grown hO.2.1 (fun x hx => by simp [Value.ownBlock] at hx; omega); skip)
                      | ((with_reducible show (if _ = true then Oper.wp _ _ _ w10 _ _ else _)); have F2 := run_app_slice (P := Try.prog) w10 22 22 3 i0 _ 1 8 Try.underlying22 hi hz0 hz1 hz2 rfl (by decide) _ kx _ hO.1 (some ⟨g, 0, none⟩) (n - (kx + 1)) (hcap2 - (kx + 1)) ((held.drop (kx + 1)).map (Value.int .i64)) HLB.out (fun h => by cases h) (fun a ha j u hu => by have := HLB.out; have := HCC.out; rw [List.getElem?_eq_none (by omega)] at hu; cases hu) (fun u hu => by obtain ⟨y, _, rfl⟩ := List.mem_map.1 hu; rfl) (by unfold maxLen; omega) (by omega); refine step_app rfl (.tmp 135) (.tmp 139) 22 22 rfl _ _ rfl rfl F2 ?_; intro v3 w11 hO2; clear F2; obtain ⟨ao3, cp3, rfl⟩ := hO2.slice; skip))
                  all_goals
                    go_simp
                    go_wp2
                    go_roundw
                    case rel =>
                      have rows2 : ∀ x ∈ rowOf (.slice ao2 kx cp2), wq.heap.size ≤ x := fun x hx => by
                        rcases hO.2.2 x hx with h | h
                        · simp [rowOf, Value.ownBlock] at h; omega
                        · have h3 : (wq.alloc (.cells #[] 3)).drew.heap.size = wq.heap.size + 1 := World.size_alloc _ _
                          omega
                      have kC := kB.grown hO2.2.1 (fun x hx => Or.inr (rows2 x (mem_rowOf.2 hx)))
                      have rows3 : ∀ x ∈ rowOf (.slice ao3 (kx + (n - (kx + 1))) cp3), w5.heap.size ≤ x := fun x hx => by
                        have h1 := Kq.size
                        have h2 := kB.size
                        rcases hO2.2.2 x hx with h | h
                        · have := rows2 x h; omega
                        · omega
                      have hlen : (held.take kx ++ held.drop (kx + 1)).length = kx + (n - (kx + 1)) := by rw [List.length_append, List.length_take, List.length_drop, HLH.out]; omega
                      refine ⟨i + 1, cs.set q (c - 1), held.take kx ++ held.drop (kx + 1), by go_num, by rw [hlen]; omega, H2.out, by rw [hlen, List.map_append]; exact hO2.1, by exact rows3, by rw [List.map_set]; exact bq.keep kC (by simp), Lq.keep kC (by simp) (by simp), Kq.trans kC (by simp)⟩
                    case measure => simp; omega
                · have hcc' := hcs hcc
                  clear hcs
                  go_wp2
                  have hs1 : IntKind.i64.wrap ((kx : Int) + 1) = (kx : Int) + 1 := IntWalk.i64_in _ (by omega)
                  have hs2 : 0 ≤ (kx : Int) + 1 := by omega
                  have hs3 : ((kx : Int) + 1).toNat = kx + 1 := by omega
                  have hcc2 : ¬ (kx + 1 = hcap2) := fun h => hcc h.symm
                  go_region_held3 (fun _ => True) (trivial)
                    (first
                      | ((with_reducible show (if _ = true then Oper.wp _ _ _ ((wq.alloc (.cells #[] 3)).drew) _ _ else _)); refine step_app rfl (.tmp 131) (.tmp 134) 22 22 rfl _ _ rfl rfl FA.out ?_; intro v2 w10 hO; obtain ⟨ao2, cp2, rfl⟩ := hO.slice; have kB : Keep [] wq w10 := (((Keep.refl [] wq).alloc (.cells #[] 3)).drew).grown hO.2.1 (fun x hx => by simp [Value.ownBlock] at hx; omega); skip)
                      | ((with_reducible show (if _ = true then Oper.wp _ _ _ w10 _ _ else _)); have F2 := run_app_slice (P := Try.prog) w10 22 22 3 i0 _ 1 8 Try.underlying22 hi hz0 hz1 hz2 rfl (by decide) _ kx _ hO.1 (some ⟨g, kx + 1, none⟩) (n - (kx + 1)) (hcap2 - (kx + 1)) ((held.drop (kx + 1)).map (Value.int .i64)) HLB.out (fun h => by cases h) (fun a ha j u hu => by cases ha; rw [Addr.add_lit]; exact HNB.out _ kB j u hu) (fun u hu => by obtain ⟨y, _, rfl⟩ := List.mem_map.1 hu; rfl) (by unfold maxLen; omega) (by omega); refine step_app rfl (.tmp 135) (.tmp 139) 22 22 rfl _ _ rfl rfl F2 ?_; intro v3 w11 hO2; clear F2; obtain ⟨ao3, cp3, rfl⟩ := hO2.slice; skip))
                  all_goals
                    go_simp
                    go_wp2
                    go_roundw
                    case rel =>
                      have rows2 : ∀ x ∈ rowOf (.slice ao2 kx cp2), wq.heap.size ≤ x := fun x hx => by
                        rcases hO.2.2 x hx with h | h
                        · simp [rowOf, Value.ownBlock] at h; omega
                        · have h3 : (wq.alloc (.cells #[] 3)).drew.heap.size = wq.heap.size + 1 := World.size_alloc _ _
                          omega
                      have kC := kB.grown hO2.2.1 (fun x hx => Or.inr (rows2 x (mem_rowOf.2 hx)))
                      have rows3 : ∀ x ∈ rowOf (.slice ao3 (kx + (n - (kx + 1))) cp3), w5.heap.size ≤ x := fun x hx => by
                        have h1 := Kq.size
                        have h2 := kB.size
                        rcases hO2.2.2 x hx with h | h
                        · have := rows2 x h; omega
                        · omega
                      have hlen : (held.take kx ++ held.drop (kx + 1)).length = kx + (n - (kx + 1)) := by rw [List.length_append, List.length_take, List.length_drop, HLH.out]; omega
                      refine ⟨i + 1, cs.set q (c - 1), held.take kx ++ held.drop (kx + 1), by go_num, by rw [hlen]; omega, H2.out, by rw [hlen, List.map_append]; exact hO2.1, by exact rows3, by rw [List.map_set]; exact bq.keep kC (by simp), Lq.keep kC (by simp) (by simp), Kq.trans kC (by simp)⟩
                    case measure => simp; omega
          · have hn00 : n = 0 := by omega
            have hH0 : Held B cs [] := by
              have h1 := HH.out
              rw [List.eq_nil_of_length_eq_zero (h1.1.trans hn00)] at h1
              exact h1.2
            have Z := Lib.hid hH0.done
            obtain ⟨g0, c0, rfl⟩ := slice_of_own6 hown
            clear hH0 HH HR hown hi3
            subst hn00
            go_wp2_with fail
            refine (ldec_no 2 L (by omega) (by omega) (Z.out 2)).mono ?_
            rintro e w6 ⟨rfl, L6, k6⟩
            have K6 : Keep [r, bm, fb] w5 w6 := K.trans k6 (by simp)
            clear L K k6 bF
            go_wp2_with fail
            refine (linc_no 2 L6 (by omega) (by omega) (Z.out 2)).mono ?_
            rintro e w7 ⟨rfl, L7, k7⟩
            have K7 : Keep [r, bm, fb] w5 w7 := K6.trans k7 (by simp)
            clear L6 K6 k7
            go_wp2_with fail
            have F7 := F5.keep K7 (by simp; omega) (by simp; omega)
            obtain ⟨⟨low, h5⟩, _, _⟩ := L7
            obtain ⟨⟨low', h6⟩, _, _⟩ := F7
            refine (rsame_eq r bm r' bm' (fC cs) (fun _ => 0) B low low' true w7 h5 h6 ⟨fun _ k => Z.out k, fun _ => rfl⟩).mono ?_
            rintro e w8 ⟨rfl, k8⟩
            have L8 := (LRf.mk ⟨low, h5⟩ hr hbm : LRf w.heap.size w7 r bm (fC cs) B).keep k8 (by simp) (by simp)
            have K8 : Keep [r, bm, fb] w5 w8 := K7.trans k8 (by simp)
            clear h5 h6 K7 k8
            have hcz : Rf.cntN (fC cs) B = 0 := Rf.cntN_zero B (fun i _ _ => Z.out i)
            have HCZ := Lib.hid hcz
            clear hcz
            go_wp2_with fail
            refine (lfree L8 ((B : Int) - 2) (by rw [Int.toNat_natCast, HCZ.out]; omega)).mono ?_
            rintro e w9 ⟨rfl, k9⟩
            have L9 := L8.keep k9 (by simp) (by simp)
            have K9 : Keep [r, bm, fb] w5 w9 := K8.trans k9 (by simp)
            clear L8 K8 k9
            have hw2 : IntKind.i64.wrap ((B : Int) - 2) = (B : Int) - 2 := IntWalk.i64_in _ (by omega)
            go_wp2_with fail
            obtain ⟨⟨low, h5⟩, _, _⟩ := L9
            refine (rused_any r bm _ _ low w9 h5).mono ?_
            rintro e w10 ⟨v6, rfl, o6, k10⟩
            rw [Int.toNat_natCast, HCZ.out] at o6
            obtain ⟨a6, c6, rfl⟩ := slice_of_own6 o6
            have K10 : Keep [r, bm, fb] w5 w10 := K9.trans k10 (by simp)
            clear o6 h5 K9 k10
            go_wp2
            go_ret
            exact ⟨by simp, K5.trans K10 (fun x hx => by simp at hx; right; omega)⟩
      · clear hin'
        go_wp2
        obtain ⟨wo2, rfl⟩ : ∃ wo2 : World, wo2 = wr := ⟨_, rfl⟩
        go_loopw [10, 16] (fun hs i wr => ∃ (i' : Nat) (cs held : List Int), i = .int .i64 i' ∧ i' + held.length ≤ 300 ∧ Held B cs held ∧ wr.ownsRow 0 3 1 hs held.length (held.map (Value.int .i64)) ∧ (∀ x ∈ rowOf hs, w5.heap.size ≤ x) ∧ Blk wr fb (cs.map (Value.int .i64)) 3 ∧ LRf w.heap.size wr r bm (fC cs) B ∧ Keep [r, bm, fb] w5 wr) (fun hs _ _ => match hs with | .slice _ n _ => n | _ => 0)
        case atStart => exact ⟨0, cs, held, rfl, by have := HH.out.1; omega, HH.out.2, by rw [HH.out.1]; exact hown, HR.out, bF, L, K⟩
        case round =>
          clear bF L K HH HR hown
          obtain ⟨i, cs, held, rfl, hi3, hH, hown, hrow, bF, L, K⟩ := hrel
          obtain ⟨n, hn⟩ : ∃ n, n = held.length := ⟨_, rfl⟩
          rw [← hn] at hown hi3
          have HH := Lib.hid (And.intro hn.symm hH)
          have HR := Lib.hid hrow
          clear hn hH hrow
          by_cases hn0 : 0 < n
          · obtain ⟨g, hcap2, rfl, hg0, hglt⟩ := hown.form hn0
            have hnI : (0 : Int) < (n : Int) := by omega
            go_upto_if 85 with fail
            go_cut [17] (fun s17 wx => ∃ kx : Nat, s17 = .int .i64 kx ∧ kx < n ∧ wr = wx)
            case first =>
              by_cases hio : i < os.length
              · obtain ⟨b, rfl⟩ : ∃ a, bo = some a := by
                  cases bo with
                  | none => have := (HOnn.out rfl).1; omega
                  | some a => exact ⟨a, rfl⟩
                obtain ⟨z, hz⟩ : ∃ z, os[i]? = some z := ⟨_, List.getElem?_eq_getElem hio⟩
                have hc0 : w.cell? (b.add i) = some (.int .i64 z) := HOX.out b rfl i _ (by simp [hz])
                have hcell : wr.cell? (b.add i) = some (.int .i64 z) := by
                  have hb := World.block_lt_of_cell? w _ hc0
                  have := K5.size
                  rw [K.cell (by omega) (by simp; omega), K5.cell hb (by simp)]; exact hc0
                obtain ⟨m2, hm2, hm2b, hmm⟩ := mask16 z
                obtain ⟨kx, hkq, hkx⟩ : ∃ kx : Nat, (m2 : Int) % (n : Int) = (kx : Int) ∧ kx < n := by
                  have h1 := Int.emod_nonneg (m2 : Int) (show (n : Int) ≠ 0 by omega)
                  have h2 := Int.emod_lt_of_pos (m2 : Int) hnI
                  exact ⟨((m2 : Int) % (n : Int)).toNat, by omega, by omega⟩
                clear hc0 hz hmm
                go_wp2
                go_meet
                case rel => exact ⟨kx, by go_num, hkx, rfl⟩
              · go_wp2
                go_meet
                case rel => exact ⟨0, by go_num, hn0, rfl⟩
            case rest =>
              obtain ⟨kx, rfl, hkn, rfl⟩ := hcut
              have hkx : kx < held.length := by have := HH.out.1; omega
              obtain ⟨x, hx⟩ : ∃ x, held[kx]? = some x := ⟨_, List.getElem?_eq_getElem hkx⟩
              have hxin := HH.out.2.inn x (List.mem_of_getElem? hx)
              obtain ⟨q, rfl⟩ := Int.eq_ofNat_of_zero_le (show 0 ≤ x by omega)
              have hq2 : 2 ≤ q := by omega
              have hqB : q < B := by omega
              have hqBI : (q : Int) < (B : Int) := by omega
              have hkxI : (kx : Int) < (n : Int) := by omega
              have ch : wr.cell? ⟨g, kx, none⟩ = some (.int .i64 (q : Int)) := by
                have := hown.cells (g := g) rfl kx _ (by rw [List.getElem?_map, hx]; rfl)
                rw [Addr.add_lit] at this
                simpa using this
              have hpos := HH.out.2.pos hx
              obtain ⟨c, hcq⟩ : ∃ c, c = cs.getD q 0 := ⟨_, rfl⟩
              have hc1 : 1 ≤ c := by rw [hcq]; exact hpos.1
              have hc3 : c ≤ 300 := by have := HH.out.1; rw [hcq]; omega
              have HCQ := Lib.hid hcq
              have HXX := Lib.hid hx
              clear hcq hpos hxin hx
              go_wp2_with fail
              refine (ldec (q : Int) L (by omega) (by omega) (by rw [fC_at _ hq2, ← HCQ.out]; omega) (by rw [fC_at _ hq2, ← HCQ.out]; omega) _ (by rw [fC_at _ hq2, ← HCQ.out])).mono ?_
              rintro e w6 ⟨rfl, L6, k6⟩
              have L7 := L6.congr (g := fC (cs.set q (c - 1))) (fun i => by rw [fC_at _ hq2, ← HCQ.out]; exact fC_set cs hq2 (by have := HH.out.2.len; omega) (c - 1) i)
              have K7 : Keep [r, bm, fb] w5 w6 := K.trans k6 (by simp)
              have bF7 := bF.keep k6 (by simp; omega)
              have o7 := ownsRow_keep hown k6 (fun x hx hx' => by have := HR.out x hx; simp at hx'; omega)
              have cq := (bF7.cell q).trans (cs_some (by have := HH.out.2.len; omega) HCQ.out.symm)
              have fq := bF7.free q
              have bS := bF7.set q (.int .i64 (c - 1))
              have kS : Keep [fb] w6 (w6.setCell ⟨fb, q, none⟩ (.int .i64 (c - 1))) := (Keep.refl _ _).setCell (Or.inl (by simp)) _
              have LS := L7.keep kS (by simp; omega) (by simp; omega)
              have KS : Keep [r, bm, fb] w5 (w6.setCell ⟨fb, q, none⟩ (.int .i64 (c - 1))) := K7.setCell (Or.inl (by simp)) _
              have oS := ownsRow_keep o7 kS (fun x hx hx' => by have := HR.out x hx; simp at hx'; omega)
              clear L6 L k6 K bF hown ch L7 K7 bF7 o7
              obtain ⟨wS, hwS⟩ : ∃ x, x = w6.setCell ⟨fb, q, none⟩ (.int .i64 (c - 1)) := ⟨_, rfl⟩
              rw [← hwS] at bS kS LS KS oS
              have HWS := Lib.hid hwS
              clear hwS kS
              have hH2 := HH.out.2.less HXX.out hqB
              rw [← HCQ.out] at hH2
              have H2 := Lib.hid hH2
              have cq2 := (bS.cell q).trans (show ((cs.map (Value.int .i64)).set q (.int .i64 (c - 1)))[q]? = some (.int .i64 (c - 1)) by rw [List.getElem?_set_self (by rw [List.length_map, HH.out.2.len]; exact hqB)])
              have hq0 : (0 : Int) ≤ (q : Int) := by omega
              have qq : ∀ t, Calls Try.prog 14 #[.pointer (some ⟨r, 0, none⟩), .int .i64 (q : Int)] (wS.drewN t) fun e w' => e = .returned (.int .i64 (c - 1)) ∧ w' = wS.drewN t := fun t =>
                (lcount (LS.keep ((Keep.refl [] wS).drewN t) (by simp) (by simp)) (q : Int) (by omega) (by omega)).mono fun e w' ⟨he, hw⟩ => ⟨by rw [he, fC_at _ hq2, cs_set _ _ _ _ (by rw [HH.out.2.len]; exact hqB), if_pos rfl], hw.symm⟩
              clear hH2
              have hsub : IntKind.i64.wrap (c - 1) = c - 1 := IntWalk.i64_in _ (by omega)
              by_cases hc11 : c = 1
              all_goals
                first
                  | have hcb : (c == 1) = true := by rw [beq_iff_eq]; exact hc11
                  | have hcb : (c == 1) = false := by rw [beq_eq_false_iff_ne]; exact hc11
                first
                  | have hcb2 : (c - 1 == 0) = true := by rw [beq_iff_eq]; omega
                  | have hcb2 : (c - 1 == 0) = false := by rw [beq_eq_false_iff_ne]; omega
                clear hc11
                go_wp2
                rw [← HWS.out]
                go_quiet ((go_at_call 14; exact Calls.quiet_of_same (qq _)))
                have bq := bS.keep ((Keep.refl [] wS).drewN nq) (by simp)
                have Lq := LS.keep ((Keep.refl [] wS).drewN nq) (by simp) (by simp)
                have Kq := KS.drewN nq
                have oq := ownsRow_keep oS ((Keep.refl [] wS).drewN nq) (by simp)
                clear bS LS KS oS qq cq cq2 fq hcb hcb2 hsub HWS
                generalize wS.drewN nq = wq at *
                have hlh : held.length = n := HH.out.1
                have HLH := Lib.hid hlh
                clear hlh
                have hnc : n ≤ hcap2 := by
                  rcases oq.2 with ⟨h1, h2⟩ | ⟨g', c', cur', h1, _, _, h2, _⟩
                  · cases h1
                  · cases h1; exact h2
                have hncI : (n : Int) ≤ (hcap2 : Int) := by omega
                have hkc : (kx : Int) ≤ (hcap2 : Int) := by omega
                have hk0 : (0 : Int) ≤ (kx : Int) := by omega
                have hk1 : (kx : Int) + 1 ≤ (n : Int) := by omega
                have hk2 : (kx : Int) + 1 ≤ (hcap2 : Int) := by omega
                have NA : ∀ W, Keep [] wq W → ∀ a, some (⟨g, 0, none⟩ : Addr) = some a → ∀ j u, ((held.take kx).map (Value.int .i64))[j]? = some u → W.cell? (a.add j) = some u := fun W K a ha j u hu => by
                  cases ha
                  have h1 : (held.map (Value.int .i64))[j]? = some u := by
                    rw [List.getElem?_map] at hu ⊢
                    rw [List.getElem?_take] at hu
                    split at hu
                    · exact hu
                    · cases hu
                  have h2 := oq.cells (g := g) rfl j u h1
                  rw [K.cell (World.block_lt_of_cell? _ _ h2) (by simp)]
                  exact h2
                have NB : ∀ W, Keep [] wq W → ∀ j u, ((held.drop (kx + 1)).map (Value.int .i64))[j]? = some u → W.cell? ⟨g, kx + 1 + j, none⟩ = some u := fun W K j u hu => by
                  have h1 : (held.map (Value.int .i64))[kx + 1 + j]? = some u := by
                    rw [List.getElem?_map] at hu ⊢
                    rw [List.getElem?_drop] at hu
                    exact hu
                  have h2 := oq.cells (g := g) rfl (kx + 1 + j) u h1
                  rw [Addr.add_lit, Nat.zero_add] at h2
                  rw [K.cell (World.block_lt_of_cell? _ _ h2) (by simp)]
                  exact h2
                have LA : ((held.take kx).map (Value.int .i64)).length = kx * 1 := by rw [List.length_map, List.length_take, HLH.out]; omega
                have LB : ((held.drop (kx + 1)).map (Value.int .i64)).length = (n - (kx + 1)) * 1 := by rw [List.length_map, List.length_drop, HLH.out]; omega
                have HNB := Lib.hid NB
                have HLB := Lib.hid LB
                have FA := Lib.hid (run_app_slice (P := Try.prog) (wq.alloc (.cells #[] 3)).drew 22 22 3 i0 _ 1 8 Try.underlying22 hi hz0 hz1 hz2 rfl (by decide) _ 0 [] (ownsRow_made0 wq 3 1).drew (some ⟨g, 0, none⟩) kx hcap2 ((held.take kx).map (Value.int .i64)) LA (fun h => by cases h) (NA _ ((Keep.refl [] wq).alloc (.cells #[] 3)).drew) (fun u hu => by obtain ⟨y, _, rfl⟩ := List.mem_map.1 hu; rfl) (by unfold maxLen; omega) (by omega))
                simp only [Nat.zero_add, List.nil_append] at FA
                clear NA NB LA LB
                have hcs : ¬ (hcap2 = kx + 1) → ¬ ((kx : Int) + 1 = (hcap2 : Int)) := fun h => by omega
                by_cases hcc : hcap2 = kx + 1
                · clear hcs
                  have hcc2 : (hcap2 = kx + 1) = True := eq_true hcc
                  have HCC := Lib.hid hcc
                  clear hcc
                  go_wp2
                  have hs1 : IntKind.i64.wrap ((kx : Int) + 1) = (kx : Int) + 1 := IntWalk.i64_in _ (by omega)
                  have hs2 : 0 ≤ (kx : Int) + 1 := by omega
                  have hs3 : ((kx : Int) + 1).toNat = kx + 1 := by omega
                  go_region_held3 (fun _ => True) (trivial)
                    (first
                      | ((with_reducible show (if _ = true then Oper.wp _ _ _ ((wq.alloc (.cells #[] 3)).drew) _ _ else _)); refine step_app rfl (.tmp 131) (.tmp 134) 22 22 rfl _ _ rfl rfl FA.out ?_; intro v2 w10 hO; obtain ⟨ao2, cp2, rfl⟩ := hO.slice; have kB : Keep [] wq w10 := (((Keep.refl [] wq).alloc (.cells #[] 3)).drew).grown hO.2.1 (fun x hx => by simp [Value.ownBlock] at hx; omega); skip)
                      | ((with_reducible show (if _ = true then Oper.wp _ _ _ w10 _ _ else _)); have F2 := run_app_slice (P := Try.prog) w10 22 22 3 i0 _ 1 8 Try.underlying22 hi hz0 hz1 hz2 rfl (by decide) _ kx _ hO.1 (some ⟨g, 0, none⟩) (n - (kx + 1)) (hcap2 - (kx + 1)) ((held.drop (kx + 1)).map (Value.int .i64)) HLB.out (fun h => by cases h) (fun a ha j u hu => by have := HLB.out; have := HCC.out; rw [List.getElem?_eq_none (by omega)] at hu; cases hu) (fun u hu => by obtain ⟨y, _, rfl⟩ := List.mem_map.1 hu; rfl) (by unfold maxLen; omega) (by omega); refine step_app rfl (.tmp 135) (.tmp 139) 22 22 rfl _ _ rfl rfl F2 ?_; intro v3 w11 hO2; clear F2; obtain ⟨ao3, cp3, rfl⟩ := hO2.slice; skip))
                  all_goals
                    go_simp
                    go_wp2
                    go_roundw
                    case rel =>
                      have rows2 : ∀ x ∈ rowOf (.slice ao2 kx cp2), wq.heap.size ≤ x := fun x hx => by
                        rcases hO.2.2 x hx with h | h
                        · simp [rowOf, Value.ownBlock] at h; omega
                        · have h3 : (wq.alloc (.cells #[] 3)).drew.heap.size = wq.heap.size + 1 := World.size_alloc _ _
                          omega
                      have kC := kB.grown hO2.2.1 (fun x hx => Or.inr (rows2 x (mem_rowOf.2 hx)))
                      have rows3 : ∀ x ∈ rowOf (.slice ao3 (kx + (n - (kx + 1))) cp3), w5.heap.size ≤ x := fun x hx => by
                        have h1 := Kq.size
                        have h2 := kB.size
                        rcases hO2.2.2 x hx with h | h
                        · have := rows2 x h; omega
                        · omega
                      have hlen : (held.take kx ++ held.drop (kx + 1)).length = kx + (n - (kx + 1)) := by rw [List.length_append, List.length_take, List.length_drop, HLH.out]; omega
                      refine ⟨i + 1, cs.set q (c - 1), held.take kx ++ held.drop (kx + 1), by go_num, by rw [hlen]; omega, H2.out, by rw [hlen, List.map_append]; exact hO2.1, by exact rows3, by rw [List.map_set]; exact bq.keep kC (by simp), Lq.keep kC (by simp) (by simp), Kq.trans kC (by simp)⟩
                    case measure => simp; omega
                · have hcc' := hcs hcc
                  clear hcs
                  go_wp2
                  have hs1 : IntKind.i64.wrap ((kx : Int) + 1) = (kx : Int) + 1 := IntWalk.i64_in _ (by omega)
                  have hs2 : 0 ≤ (kx : Int) + 1 := by omega
                  have hs3 : ((kx : Int) + 1).toNat = kx + 1 := by omega
                  have hcc2 : ¬ (kx + 1 = hcap2) := fun h => hcc h.symm
                  go_region_held3 (fun _ => True) (trivial)
                    (first
                      | ((with_reducible show (if _ = true then Oper.wp _ _ _ ((wq.alloc (.cells #[] 3)).drew) _ _ else _)); refine step_app rfl (.tmp 131) (.tmp 134) 22 22 rfl _ _ rfl rfl FA.out ?_; intro v2 w10 hO; obtain ⟨ao2, cp2, rfl⟩ := hO.slice; have kB : Keep [] wq w10 := (((Keep.refl [] wq).alloc (.cells #[] 3)).drew).grown hO.2.1 (fun x hx => by simp [Value.ownBlock] at hx; omega); skip)
                      | ((with_reducible show (if _ = true then Oper.wp _ _ _ w10 _ _ else _)); have F2 := run_app_slice (P := Try.prog) w10 22 22 3 i0 _ 1 8 Try.underlying22 hi hz0 hz1 hz2 rfl (by decide) _ kx _ hO.1 (some ⟨g, kx + 1, none⟩) (n - (kx + 1)) (hcap2 - (kx + 1)) ((held.drop (kx + 1)).map (Value.int .i64)) HLB.out (fun h => by cases h) (fun a ha j u hu => by cases ha; rw [Addr.add_lit]; exact HNB.out _ kB j u hu) (fun u hu => by obtain ⟨y, _, rfl⟩ := List.mem_map.1 hu; rfl) (by unfold maxLen; omega) (by omega); refine step_app rfl (.tmp 135) (.tmp 139) 22 22 rfl _ _ rfl rfl F2 ?_; intro v3 w11 hO2; clear F2; obtain ⟨ao3, cp3, rfl⟩ := hO2.slice; skip))
                  all_goals
                    go_simp
                    go_wp2
                    go_roundw
                    case rel =>
                      have rows2 : ∀ x ∈ rowOf (.slice ao2 kx cp2), wq.heap.size ≤ x := fun x hx => by
                        rcases hO.2.2 x hx with h | h
                        · simp [rowOf, Value.ownBlock] at h; omega
                        · have h3 : (wq.alloc (.cells #[] 3)).drew.heap.size = wq.heap.size + 1 := World.size_alloc _ _
                          omega
                      have kC := kB.grown hO2.2.1 (fun x hx => Or.inr (rows2 x (mem_rowOf.2 hx)))
                      have rows3 : ∀ x ∈ rowOf (.slice ao3 (kx + (n - (kx + 1))) cp3), w5.heap.size ≤ x := fun x hx => by
                        have h1 := Kq.size
                        have h2 := kB.size
                        rcases hO2.2.2 x hx with h | h
                        · have := rows2 x h; omega
                        · omega
                      have hlen : (held.take kx ++ held.drop (kx + 1)).length = kx + (n - (kx + 1)) := by rw [List.length_append, List.length_take, List.length_drop, HLH.out]; omega
                      refine ⟨i + 1, cs.set q (c - 1), held.take kx ++ held.drop (kx + 1), by go_num, by rw [hlen]; omega, H2.out, by rw [hlen, List.map_append]; exact hO2.1, by exact rows3, by rw [List.map_set]; exact bq.keep kC (by simp), Lq.keep kC (by simp) (by simp), Kq.trans kC (by simp)⟩
                    case measure => simp; omega
          · have hn00 : n = 0 := by omega
            have hH0 : Held B cs [] := by
              have h1 := HH.out
              rw [List.eq_nil_of_length_eq_zero (h1.1.trans hn00)] at h1
              exact h1.2
            have Z := Lib.hid hH0.done
            obtain ⟨g0, c0, rfl⟩ := slice_of_own6 hown
            clear hH0 HH HR hown hi3
            subst hn00
            go_wp2_with fail
            refine (ldec_no 2 L (by omega) (by omega) (Z.out 2)).mono ?_
            rintro e w6 ⟨rfl, L6, k6⟩
            have K6 : Keep [r, bm, fb] w5 w6 := K.trans k6 (by simp)
            clear L K k6 bF
            go_wp2_with fail
            refine (linc_no 2 L6 (by omega) (by omega) (Z.out 2)).mono ?_
            rintro e w7 ⟨rfl, L7, k7⟩
            have K7 : Keep [r, bm, fb] w5 w7 := K6.trans k7 (by simp)
            clear L6 K6 k7
            go_wp2_with fail
            have F7 := F5.keep K7 (by simp; omega) (by simp; omega)
            obtain ⟨⟨low, h5⟩, _, _⟩ := L7
            obtain ⟨⟨low', h6⟩, _, _⟩ := F7
            refine (rsame_eq r bm r' bm' (fC cs) (fun _ => 0) B low low' true w7 h5 h6 ⟨fun _ k => Z.out k, fun _ => rfl⟩).mono ?_
            rintro e w8 ⟨rfl, k8⟩
            have L8 := (LRf.mk ⟨low, h5⟩ hr hbm : LRf w.heap.size w7 r bm (fC cs) B).keep k8 (by simp) (by simp)
            have K8 : Keep [r, bm, fb] w5 w8 := K7.trans k8 (by simp)
            clear h5 h6 K7 k8
            have hcz : Rf.cntN (fC cs) B = 0 := Rf.cntN_zero B (fun i _ _ => Z.out i)
            have HCZ := Lib.hid hcz
            clear hcz
            go_wp2_with fail
            refine (lfree L8 ((B : Int) - 2) (by rw [Int.toNat_natCast, HCZ.out]; omega)).mono ?_
            rintro e w9 ⟨rfl, k9⟩
            have L9 := L8.keep k9 (by simp) (by simp)
            have K9 : Keep [r, bm, fb] w5 w9 := K8.trans k9 (by simp)
            clear L8 K8 k9
            have hw2 : IntKind.i64.wrap ((B : Int) - 2) = (B : Int) - 2 := IntWalk.i64_in _ (by omega)
            go_wp2_with fail
            obtain ⟨⟨low, h5⟩, _, _⟩ := L9
            refine (rused_any r bm _ _ low w9 h5).mono ?_
            rintro e w10 ⟨v6, rfl, o6, k10⟩
            rw [Int.toNat_natCast, HCZ.out] at o6
            obtain ⟨a6, c6, rfl⟩ := slice_of_own6 o6
            have K10 : Keep [r, bm, fb] w5 w10 := K9.trans k10 (by simp)
            clear o6 h5 K9 k10
            go_wp2
            go_ret
            exact ⟨by simp, K5.trans K10 (fun x hx => by simp at hx; right; omega)⟩

theorem refsBack_readable : Try.f6.params.toList.all (fun t => Try.prog.readableRec t && decide (t < Try.prog.types.size)) = true := by kernel_rfl

open Go.ChangeShapes Go.WideShapes Go.ChangeAt in
set_option maxRecDepth 100000 in
theorem refsBack_contract (H : Type) (enc : TypeId × Value → H) (W : World) (base : Nat) (args : Array Value) (ds gs : List (DataW H)) (before : List MemPlace)
    (hval : ∀ (j : Nat) t v, Try.f6.params[j]? = some t → args[j]? = some v → Value.okWide Try.prog W .any base t v)
    (hW : DataW.Whole enc Try.prog Try.f6.params.toList Rows.refsBackSpec.vars false W args.toList ds gs before) :
    Calls Try.prog 6 args W fun e W' => ∃ v, e = .returned v ∧ Rows.refsBackSpec.post enc Try.prog Try.f6 false true false false W args v W' := by
  have hW' := hW
  obtain ⟨p, q, hA0, hV, rfl, _, _⟩ := hW
  have hA : DataW.TrodAll enc Try.prog W 0 (fun _ => true) true Try.f6.params.toList args.toList ds p := hA0
  rw [Try.params6] at hA hval
  obtain ⟨v0, v1, v2, d0, d1, d2, p0, p1, p2, rfl, rfl, rfl, h0, h1, h2⟩ := trodAll_three hA
  obtain ⟨rfl, rfl⟩ := trodVars_none hV
  obtain ⟨a0, rfl, rfl, rfl, w0⟩ := open_int Try.underlying3 (hval 0 3 v0 rfl rfl) h0
  obtain ⟨zs, hrd, hl, hzb⟩ := open_numbers (e := 3) Try.underlying22 Try.underlying3 (by kernel_rfl) (hval 1 22 v1 rfl rfl) h1
  obtain ⟨os, hro, hl2, hob⟩ := open_numbers (e := 3) Try.underlying22 Try.underlying3 (by kernel_rfl) (hval 2 22 v2 rfl rfl) h2
  refine (refsBack_walk a0 v1 v2 zs os W hrd hl hro hl2).mono fun e W' ⟨he, hk⟩ => ?_
  subst he
  exact ⟨_, rfl, law_post Try.laidOut refsBack_readable rfl Try.underlying4 rfl hW' rfl hk.below0⟩

set_option maxRecDepth 100000 in
theorem refsBack_lifted (os : Os) (started : os.Started) (H : Type) (enc : TypeId × Value → H) :
    ReturnsInHanded {} Try.checked os 6 .any (Rows.refsBackSpec.pre6 enc Try.prog Try.f6 Rows.refsBackRow.domain false) (Rows.refsBackSpec.post enc Try.prog Try.f6 false true false false) := by
  refine returnsInHanded_of_change_sized (C := Try.checked) Try.own started (by kernel_rfl) Try.func6
    (ChangeSpec.witness6 (enc := enc) (C := Try.checked) false ⟨#[], #[.int .i64 0, .slice none 0 0, .slice none 0 0], []⟩ 8 (by kernel_rfl) (by kernel_rfl) (by kernel_rfl) (by kernel_rfl)) ?_
  intro W base args ds gs before hval hW _ _ _
  exact refsBack_contract H enc W base args ds gs before hval hW

theorem refsBack_holds : Rows.RefsBackSaid :=
  OpenClaim.holds_of_wide 6 Try.f6 rfl rfl rfl rfl rfl rfl rfl ⟨rfl, rfl, rfl, rfl, rfl⟩ rfl rfl rfl rfl rfl (by kernel_rfl) Try.func6 (by kernel_rfl)
    (of_decide_eq_true (by kernel_rfl)) (by unfold Func.isWrapper; first | (rw [if_pos (by decide +kernel)]; kernel_rfl) | (rw [if_neg (by decide +kernel)]; exact ⟨rfl, rfl⟩))
    (fun os started H enc _ => refsBack_lifted os started H enc)

#print axioms refsBack_holds
end Go.Proofs.Ytlecdappgpbnlaa
