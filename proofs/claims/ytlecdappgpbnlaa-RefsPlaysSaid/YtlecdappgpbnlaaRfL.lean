/-
  Clone of both; Same at nil. No condition but that the receivers are ones that New made, or later ones.
-/
import Derived.Test.YtlecdappgpbnlaaRfK
import Derived.Deep.RegionHeldLaw
namespace Go.Proofs.Ytlecdappgpbnlaa
open Go.RowKit Go.Shelf Go.Maps

set_option maxRecDepth 100000 in
set_option maxHeartbeats 3200000 in
/-- the document's Clone -/
theorem qclone_any (p : Nat) (v : Value) (f : Int → Int) (B : Int) (w : World) (h : IsRR w p v f B) :
    Calls Try.prog 20 #[.pointer (some ⟨p, 0, none⟩)] w fun e w' => ∃ q u, e = .returned (.pointer (some ⟨q, 0, none⟩)) ∧ IsRR w' q u f B ∧ w.heap.size ≤ q ∧ (∀ x ∈ rowOf u, w.heap.size ≤ x) ∧ Keep [] w w' := by
  obtain ⟨c0, c1, _⟩ := h.cells
  obtain ⟨ao, cc, rfl⟩ := h.row.len
  obtain ⟨i0, hi, hz0, hz1, hz2⟩ := info_parts info67
  obtain ⟨L, hL⟩ : ∃ L, L = Rf.used f B.toNat := ⟨_, rfl⟩
  have hrow := h.row
  have hle := used_le (f := f) h.good.b1
  have hpw := h.blk.lt
  rw [← hL] at c1 hrow hle
  have HL := Lib.hid hL
  have HG := Lib.hid h.good
  clear hL h
  have h1c : ∀ u ∈ pcs f L, u.oneCell' = true := fun u hu => by
    unfold pcs at hu
    obtain ⟨k, _, hk⟩ := List.mem_flatMap.1 hu
    simp at hk
    rcases hk with rfl | rfl <;> rfl
  -- what the list's cells hold, told by places; at an empty list whatever lies there
  have hcase : (L = [] ∧ L.length = 0) ∨ ∃ g, ao = some ⟨g, 0, none⟩ ∧ g < w.heap.size ∧ ∀ (j : Nat) k, L[j]? = some k → w.cell? ⟨g, j * 2, none⟩ = some (.int .i64 k) ∧ w.cell? ⟨g, j * 2 + 1, none⟩ = some (.int .i64 (f k)) := by
    rcases hrow with ⟨h0, _⟩ | ⟨g, c, he, hg, _, hx⟩
    · exact Or.inl ⟨h0, by rw [h0]; rfl⟩
    · cases he; exact Or.inr ⟨g, rfl, hg, hx⟩
  have hnews : ∀ W, Keep [] w W → ∀ a, ao = some a → ∀ (j : Nat) u, (pcs f L)[j]? = some u → W.cell? (a.add j) = some u := fun W kW a ha j u hu => by
    rcases hcase with ⟨h0, _⟩ | ⟨g, hg, hgw, hx⟩
    · rw [h0] at hu; simp [pcs] at hu
    · rw [ha] at hg
      cases hg
      have hjl : j < L.length * 2 := by rw [← pcs_length f L]; exact (List.getElem?_eq_some_iff.1 hu).1
      obtain ⟨k, hk⟩ : ∃ k, L[j / 2]? = some k := ⟨_, List.getElem?_eq_getElem (show j / 2 < L.length by omega)⟩
      obtain ⟨x1, x2⟩ := hx _ k hk
      obtain ⟨y1, y2⟩ := pcs_get f L _ k hk
      rw [Addr.add_lit, Nat.zero_add, kW.cell (by exact hgw) (by simp)]
      rcases Nat.mod_two_eq_zero_or_one j with hm | hm
      · have e : j / 2 * 2 = j := by omega
        rw [e] at x1 y1
        rw [y1] at hu
        rw [x1, hu]
      · have e : j / 2 * 2 + 1 = j := by omega
        rw [e] at x2 y2
        rw [y2] at hu
        rw [x2, hu]
  have hfin : ∀ (ao2 : Option Addr) (cp2 : Nat) (w10 : World), AppOut 67 2 (w.alloc (.cells #[] 67)).drew (.slice (some ⟨w.heap.size, 0, none⟩) 0 0) L.length (pcs f L) (.slice ao2 L.length cp2) w10 →
      Keep [] w w10 ∧ RowP w10 (.slice ao2 L.length cp2) f L ∧ (∀ x ∈ rowOf (.slice ao2 L.length cp2), w.heap.size ≤ x ∧ x < w10.heap.size) := fun ao2 cp2 w10 hO => by
    have k0 : Keep [] w (w.alloc (.cells #[] 67)).drew := ((Keep.refl [] w).alloc (.cells #[] 67)).drew
    have h3 : (w.alloc (.cells #[] 67)).drew.heap.size = w.heap.size + 1 := World.size_alloc _ _
    have kA : Keep [] w w10 := k0.grown hO.2.1 (fun x hx => Or.inr (by simp [Value.ownBlock] at hx; omega))
    refine ⟨kA, (RowP.ofOwn hO.1).1, fun x hx => ⟨?_, ?_⟩⟩
    · rcases hO.2.2 x hx with h1 | h1
      · simp [rowOf, Value.ownBlock] at h1; omega
      · omega
    · rcases hO.1.2 with ⟨e, _⟩ | ⟨g, cap, cur, e, _, hg, _⟩
      · rw [e] at hx; simp [rowOf, Value.ownBlock] at hx
      · rw [e] at hx
        simp [rowOf, Value.ownBlock] at hx
        rw [hx]; exact (Array.getElem?_eq_some_iff.1 hg).1
  have HFIN := Lib.hid hfin
  have hnil : ao = none → L.length = 0 ∧ cc = 0 := fun h => by
    rcases hrow with ⟨h0, he⟩ | ⟨g, c', he, _⟩
    · have hl : L.length = 0 := by rw [h0]; rfl
      rw [hl] at he
      cases he
      exact ⟨hl, rfl⟩
    · rw [h] at he; cases he
  have FA := Lib.hid (run_app_slice (P := Try.prog) ((w.alloc (.cells #[] 67)).drew) 61 61 67 i0 _ 2 16 Try.underlying61 hi hz0 hz1 hz2 rfl (by decide) _ 0 [] (ownsRow_made0 w 67 2).drew ao L.length cc (pcs f L) (pcs_length f L) hnil (hnews _ (((Keep.refl [] w).alloc (.cells #[] 67)).drew)) h1c (by unfold maxLen; omega) (by omega))
  simp only [Nat.zero_add, List.nil_append] at FA
  clear hnews hnil h1c hcase hrow hfin
  go_enter Try.func20, Try.ntmps20
  go_wp2_with fail
  go_region_held3 (fun W => W.cell? ⟨p, 0, none⟩ = some (.int .i64 B) ∧ W.cell? ⟨p, 1, none⟩ = some (.slice ao L.length cc))
    (first | go_keep | (refine ⟨?_, ?_⟩ <;> assumption))
    (first | ((with_reducible show (if _ = true then Oper.wp _ _ _ ((w.alloc (.cells #[] 67)).drew) _ _ else _)); refine step_app rfl (.tmp 7) (.tmp 11) 61 61 rfl _ _ rfl rfl FA.out ?_; intro v2 w10 hO; obtain ⟨ao2, cp2, rfl⟩ := hO.slice; have d0 : w10.cell? ⟨p, 0, none⟩ = some (.int .i64 B) := ((HFIN.out _ _ _ hO).1.cell (p := ⟨p, 0, none⟩) hpw (by simp)).trans c0; have d1 : w10.cell? ⟨p, 1, none⟩ = some (.slice ao L.length cc) := ((HFIN.out _ _ _ hO).1.cell (p := ⟨p, 1, none⟩) hpw (by simp)).trans c1; skip))
  all_goals
    go_simp
    go_wp2
    go_ret
    obtain ⟨kA, hrp, hrx⟩ := HFIN.out _ _ _ hO
    refine ⟨w10.heap.size, _, rfl, ⟨Blk.new' w10 [.int .i64 B, .slice ao2 L.length cp2] 63, ?_, fun hm => ?_, HG.out⟩, kA.size, fun x hx => (hrx x hx).1, kA.alloc _⟩
    · rw [← HL.out]
      exact hrp.keep ((Keep.refl [] w10).alloc _) (by simp)
    · have := (hrx _ hm).2
      omega

theorem rmap_clone (b : Nat) (f : Int → Int) (B : Int) (w : World) (h : RMap w b f B) :
    Calls Try.prog 31 #[.map (some b)] w fun e w' => e = .returned (.map (some w.heap.size)) ∧ RMap w' w.heap.size f B ∧ Keep [] w w' := by
  obtain ⟨D, hown, hrest⟩ := h
  have hcon : Calls Try.prog 31 #[.map (some b)] w fun e w' => e = .returned (.map (some w.heap.size)) ∧ w'.ownsMap Try.prog 3 (plainElem Try.prog 3) w.heap.size (Maps.size D) D ∧ w'.ownsMap Try.prog 3 (plainElem Try.prog 3) b (Maps.size D) D ∧ Below w.heap.size w w' :=
    AnyW.maps_Clone_owns Try.cloneA 3 (plainElem Try.prog 3) b (Maps.size D) D w hown
  refine hcon.mono ?_
  rintro e w' ⟨rfl, h1, _, hB⟩
  exact ⟨rfl, ⟨D, h1, hrest⟩, Keep.ofBelow hB⟩

set_option maxRecDepth 100000 in
set_option maxHeartbeats 3200000 in
/-- Clone -/
theorem rclone_any (r bm : Nat) (f : Int → Int) (B low : Int) (w : World) (h : IsRf w r bm f B low) :
    Calls Try.prog 19 #[.pointer (some ⟨r, 0, none⟩)] w fun e w' => ∃ r' bm', e = .returned (.pointer (some ⟨r', 0, none⟩)) ∧ IsRf w' r' bm' f B low ∧ w.heap.size ≤ r' ∧ w.heap.size ≤ bm' ∧ Keep [] w w' := by
  obtain ⟨c0, c1, c2, _⟩ := h.cells
  obtain ⟨hr, hbm⟩ := h.lt
  have hm := h.map.keep ((Keep.refl [] w).alloc (.cells #[.int .i64 B, .map (some bm), .int .i64 low] 53)) (by simp)
  have B0 := Blk.new' w [.int .i64 B, .map (some bm), .int .i64 low] 53
  have hsz : (w.alloc (.cells #[.int .i64 B, .map (some bm), .int .i64 low] 53)).heap.size = w.heap.size + 1 := World.size_alloc _ _
  have k0 : Keep [] w (w.alloc (.cells #[.int .i64 B, .map (some bm), .int .i64 low] 53)) := (Keep.refl [] w).alloc _
  have HG := Lib.hid h.good
  clear h
  go_enter Try.func19, Try.ntmps19
  go_wp2_with fail
  refine (rmap_clone bm f B _ hm).mono ?_
  rintro e w2 ⟨rfl, hm2, k2⟩
  rw [hsz] at hm2
  have B2 := B0.keep k2 (by simp)
  have d1 := B2.cell 1
  have g1 := B2.free 1
  simp only [List.getElem?_cons_zero, List.getElem?_cons_succ] at d1
  clear hm B0
  go_wp2
  go_ret
  have kS : Keep [w.heap.size] w2 (w2.setCell ⟨w.heap.size, 1, none⟩ (.map (some (w.heap.size + 1)))) := (Keep.refl _ _).setCell (Or.inl (by simp)) _
  refine ⟨w.heap.size, w.heap.size + 1, rfl, ⟨B2.set 1 _, hm2.keep kS (by simp), HG.out, by omega⟩, Nat.le_refl _, by omega, (k0.trans k2 (by simp)).trans kS (by simp)⟩

set_option maxRecDepth 100000 in
set_option maxHeartbeats 800000 in
/-- Same at nil -/
theorem rsame_nil (r : Nat) (w : World) : Calls Try.prog 17 #[.pointer (some ⟨r, 0, none⟩), .pointer none] w fun e w' => e = .returned (.bool false) ∧ Keep [] w w' := by
  go_enter Try.func17, Try.ntmps17
  go_wp2_with fail
  go_quiet (fail)
  go_wp2
  go_ret
  exact ⟨rfl, (Keep.refl _ _).drewN _⟩
end Go.Proofs.Ytlecdappgpbnlaa
