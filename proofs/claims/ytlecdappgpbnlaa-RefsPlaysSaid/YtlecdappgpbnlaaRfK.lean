/-
  The document's Used and Same, the law's lists compared; Clone of both. No condition but that the receivers are ones that New made, or later ones.
-/
import Derived.Test.YtlecdappgpbnlaaRfJ
import Derived.Test.YtlecdappgpbnlaaRfF
import Derived.Laws.StructEq
namespace Go.Proofs.Ytlecdappgpbnlaa
open Go.RowKit Go.Shelf

theorem info3q : (Try.prog.info? 3).map (fun i => (i.zero, i.size, i.bytes)) = some (some (.int .i64 0), 1, 8) := by kernel_rfl

set_option maxRecDepth 100000 in
set_option maxHeartbeats 1600000 in
/-- the document's Used: the blocks that are not free, rising -/
theorem qused_any (p : Nat) (v : Value) (f : Int → Int) (B : Int) (w : World) (h : IsRR w p v f B) :
    Calls Try.prog 37 #[.pointer (some ⟨p, 0, none⟩)] w fun e w' => ∃ u, e = .returned u ∧ w'.ownsRow 0 3 1 u (Rf.cntN f B.toNat) ((Rf.used f B.toNat).map (Value.int .i64)) ∧ Keep [] w w' := by
  obtain ⟨i0, hi, hz0, hz1, hz2⟩ := info_parts info3q
  obtain ⟨c0, c1, _⟩ := h.cells
  obtain ⟨ao, cc, rfl⟩ := h.row.len
  rw [← Rf.used_length]
  obtain ⟨L, hL⟩ : ∃ L, L = Rf.used f B.toNat := ⟨_, rfl⟩
  have hrow := h.row
  have hle := used_le (f := f) h.good.b1
  have hpw := h.blk.lt
  rw [← hL] at c1 hrow hle ⊢
  clear hL h
  go_enter Try.func37, Try.ntmps37
  go_wp2_with fail
  go_loopw [3, 4] (fun hs i wr => ∃ k : Nat, i = .int .i64 k ∧ k ≤ L.length ∧ wr.ownsRow 0 3 1 hs k ((L.take k).map (Value.int .i64)) ∧ Hid (∀ x ∈ rowOf hs, w.heap.size ≤ x) ∧ Keep [] w wr) (fun _ i _ => L.length - (intOf i).toNat)
  case atStart => exact ⟨0, rfl, Nat.zero_le _, ownsRow_made0 w 3 1, Lib.hid (by simp [rowOf, Value.ownBlock]), (Keep.refl _ _).alloc _⟩
  case round =>
    obtain ⟨k, rfl, hk, hown, hrows, K⟩ := hrel
    obtain ⟨hao, hcap, rfl⟩ := slice_ownR hown
    have c1r : wr.cell? ⟨p, 1, none⟩ = some (.slice ao L.length cc) := by rw [K.cell (by exact hpw) (by simp)]; exact c1
    by_cases hlt : k < L.length
    · obtain ⟨x, hxk⟩ : ∃ x, L[k]? = some x := ⟨_, List.getElem?_eq_getElem hlt⟩
      rcases hrow with ⟨h0, _⟩ | ⟨g, c, he, hg, hc, hx⟩
      · rw [h0] at hlt; simp at hlt
      cases he
      have q0 : wr.cell? ⟨g, k * 2, none⟩ = some (.int .i64 x) := by rw [K.cell (by exact hg) (by simp)]; exact (hx k x hxk).1
      have hnext : (L.take (k + 1)).map (Value.int .i64) = (L.take k).map (Value.int .i64) ++ [.int .i64 x] := by rw [List.take_add_one, hxk]; simp
      have HN := Lib.hid hnext
      have FA := Lib.hid (run_app_slice (P := Try.prog) (wr.alloc (.cells #[.int .i64 x] 3)) 22 22 3 i0 _ 1 8 Try.underlying22 hi hz0 hz1 hz2 rfl (by decide) _ k _ (hown.alloc (.cells #[.int .i64 x] 3)) (some ⟨wr.heap.size, 0, none⟩) 1 1 [.int .i64 x] rfl (fun h => by cases h) (by intro a ha; cases ha; exact World.news_of_block (heap_alloc_new _ _)) (fun u hu => by simp at hu; subst hu; rfl) (by unfold maxLen; omega) (by omega))
      clear hx hxk hnext hown
      go_wp2_with (at_builtin; refine wpList_app rfl (.tmp 15) (.tmp 24) 22 22 rfl _ _ rfl rfl FA.out ?_; intro hv w8 hO; obtain ⟨ao8, cp8, rfl⟩ := hO.slice)
      have kA : Keep (rowOf (.slice hao k hcap)) wr w8 := (((Keep.refl [] wr).alloc (.cells #[.int .i64 x] 3)).mono (by simp)).grown hO.2.1 (fun y hy => Or.inl (mem_rowOf.2 hy))
      have hrows8 : ∀ y ∈ rowOf (.slice ao8 (k + 1) cp8), w.heap.size ≤ y := fun y hy => by
        have h1 := hO.2.2 y hy
        have h2 := K.size
        have h3 : (wr.alloc (.cells #[.int .i64 x] 3)).heap.size = wr.heap.size + 1 := World.size_alloc _ _
        rcases h1 with h1 | h1
        · exact hrows.out y h1
        · omega
      go_roundw
      case rel => exact ⟨k + 1, by go_num, by omega, by rw [HN.out]; exact hO.1, Lib.hid hrows8, K.trans kA (fun y hy => Or.inr (hrows.out y hy))⟩
      case measure => simp [intOf]; omega
    · obtain rfl : k = L.length := by omega
      rw [List.take_length] at hown
      go_wp2
      go_ret
      exact ⟨_, rfl, hown, K⟩

set_option maxRecDepth 100000 in
set_option maxHeartbeats 1600000 in
/-- the law's comparison of two lists that are the same -/
theorem numbers_any (a b : Value) (n : Nat) (l : List Int) (w : World) (ha : RdV w a n 1 (l.map (Value.int .i64))) (hb : RdV w b n 1 (l.map (Value.int .i64))) (hn : n ≤ 9223372036854775806) :
    Calls Try.prog 36 #[a, b] w fun e w' => e = .returned (.bool true) ∧ Keep [] w w' := by
  obtain ⟨hl, ao, ca, rfl, hca, hna, hxa⟩ := ha
  obtain ⟨_, bo, cb, rfl, hcb, hnb, hxb⟩ := hb
  rw [List.length_map] at hl
  go_enter Try.func36, Try.ntmps36
  go_wp2_with fail
  go_loopw [5] (fun i wr => ∃ k : Nat, i = .int .i64 k ∧ k ≤ n ∧ Keep [] w wr) (fun i _ => n - (intOf i).toNat)
  case atStart => exact ⟨0, rfl, Nat.zero_le _, Keep.refl _ _⟩
  case round =>
    obtain ⟨k, rfl, hk, K⟩ := hrel
    by_cases hlt : k < n
    · obtain ⟨x, hxk⟩ : ∃ x, l[k]? = some x := ⟨_, List.getElem?_eq_getElem (by omega)⟩
      cases ao with
      | none => have := (hna rfl).1; omega
      | some a =>
        cases bo with
        | none => have := (hnb rfl).1; omega
        | some b =>
          have ca0 := hxa a rfl k _ (by rw [List.getElem?_map, hxk]; rfl)
          have cb0 := hxb b rfl k _ (by rw [List.getElem?_map, hxk]; rfl)
          have ca1 : wr.cell? (a.add k) = some (.int .i64 x) := by rw [K.cell (World.block_lt_of_cell? w _ ca0) (by simp)]; exact ca0
          have cb1 : wr.cell? (b.add k) = some (.int .i64 x) := by rw [K.cell (World.block_lt_of_cell? w _ cb0) (by simp)]; exact cb0
          clear hxk ca0 cb0 hxa hxb hna hnb
          go_wp2_with fail
          go_region
          go_wp2
          go_roundw
          case rel => exact ⟨k + 1, by go_num, by omega, K.drew⟩
          case measure => simp [intOf]; omega
    · go_wp2
      go_ret
      exact ⟨rfl, K⟩

section
variable {P : Program} {d : Nat} {xs ys : Array Value} {f : Field} {fs : List Field} {a b : Value} {r s : Bool} {w : World}
theorem eqF_more (hn : f.name ≠ "_") (ha : (part f.type xs f.offset).run P w = .ok a w) (hb : (part f.type ys f.offset).run P w = .ok b w) (he : (Op.equalIn d f.type a b).run P w = .ok r w) (hr : (Op.eqFields d xs ys fs).run P w = .ok s w) :
    (Op.eqFields d xs ys (f :: fs)).run P w = .ok (r && s) w := by
  rw [Op.eqFields]
  simp only [if_pos hn, Sem.run_bind, ha, hb, he, Result.andThen_ok]
  cases r
  · simp
  · simpa using hr
theorem eqF_none : (Op.eqFields d xs ys []).run P w = .ok true w := by simp [Op.eqFields]
theorem eqS {t : TypeId} {fs : Array Field} (hu : P.underlying t = some (.struct fs)) (hp : P.stoodInHeld t = false) (h : (Op.eqFields d xs ys fs.toList).run P w = .ok r w) : (Op.equalIn (d + 1) t (.agg xs) (.agg ys)).run P w = .ok r w := by
  have hf : P.fieldsOf t = fs := by simp [Program.fieldsOf, hu]
  rw [run_equalIn_struct (P := P) w d t xs ys (by rw [hf]; exact hu) hp, hf]
  exact h
end

theorem neqRef (w : World) (a b a' b' : Int) : (binOp .neq 67 (.agg #[.int .i64 a, .int .i64 b]) (.agg #[.int .i64 a', .int .i64 b'])).run Try.prog w = .ok (.bool (!(a == a' && (b == b' && true)))) w := by
  have h : (Op.equalIn 10000 67 (.agg #[.int .i64 a, .int .i64 b]) (.agg #[.int .i64 a', .int .i64 b'])).run Try.prog w = .ok (a == a' && (b == b' && true)) w := by
    refine eqS (d := 9999) Try.underlying67 (by kernel_rfl) ?_
    refine eqF_more (by decide) (by go_simp; rfl) (by go_simp; rfl) (by go_simp) ?_
    exact eqF_more (by decide) (by go_simp; rfl) (by go_simp; rfl) (by go_simp) eqF_none
  rw [run_neq_struct, h]
  rfl

/-- lists and counts that are the same: so are all counts -/
theorem same_all {f g : Int → Int} {B : Int} (hf : RGood f B) (hg : RGood g B) (hl : Rf.used f B.toNat = Rf.used g B.toNat) (hx : ∀ k ∈ Rf.used f B.toNat, f k = g k) : ∀ k, f k = g k := by
  intro k
  by_cases h : k ∈ Rf.used f B.toNat
  · exact hx k h
  · have h2 := h
    rw [hl] at h2
    have z : ∀ {e : Int → Int}, RGood e B → k ∉ Rf.used e B.toNat → e k = 0 := fun {e} he hn => by
      by_cases hz : e k = 0
      · exact hz
      · have := he.inn k hz
        exact absurd (Rf.mem_used.2 ⟨by omega, by omega, hz⟩) hn
    rw [z hf h, z hg h2]

set_option maxRecDepth 100000 in
set_option maxHeartbeats 3200000 in
/-- the document's Same -/
theorem qsame_any (p q : Nat) (v u : Value) (f g : Int → Int) (B : Int) (b : Bool) (w : World) (h : IsRR w p v f B) (h' : IsRR w q u g B) (hb : b = true ↔ ∀ k, f k = g k) :
    Calls Try.prog 23 #[.pointer (some ⟨p, 0, none⟩), .pointer (some ⟨q, 0, none⟩)] w fun e w' => e = .returned (.bool b) ∧ Keep [] w w' := by
  obtain ⟨c0, c1, _⟩ := h.cells
  obtain ⟨d0, d1, _⟩ := h'.cells
  obtain ⟨ao, cc, rfl⟩ := h.row.len
  obtain ⟨bo, dd, rfl⟩ := h'.row.len
  obtain ⟨L, hL⟩ : ∃ L, L = Rf.used f B.toNat := ⟨_, rfl⟩
  obtain ⟨M, hM⟩ : ∃ M, M = Rf.used g B.toNat := ⟨_, rfl⟩
  have hrow := h.row
  have hrow' := h'.row
  have hle := used_le (f := f) h.good.b1
  have hpw := h.blk.lt
  have hqw := h'.blk.lt
  have hsm := Lib.hid (same_all h.good h'.good)
  rw [← hL] at c1 hrow hle hsm
  rw [← hM] at d1 hrow' hsm
  have HBB := Lib.hid hb
  have HL := Lib.hid hL
  have HM := Lib.hid hM
  have hbb : (B == B) = true := beq_self_eq_true B
  have hbn : (B != B) = false := by simp
  clear h h' hb hL hM
  by_cases hlen : L.length = M.length
  · have hlenI : ((L.length : Nat) : Int) = ((M.length : Nat) : Int) := by omega
    rw [← hlen] at d1
    go_enter Try.func23, Try.ntmps23
    go_wp2_with fail
    go_quiet (fail)
    go_wp2_with fail
    go_loopw [5] (fun i wr => ∃ k : Nat, i = .int .i64 k ∧ k ≤ L.length ∧ Hid (∀ j, j < k → L[j]? = M[j]? ∧ ∀ x, L[j]? = some x → f x = g x) ∧ Keep [] w wr) (fun i _ => L.length - (intOf i).toNat)
    case atStart => exact ⟨0, rfl, Nat.zero_le _, Lib.hid (fun j h => absurd h (by omega)), (Keep.refl _ _).drewN _⟩
    case round =>
      obtain ⟨k, rfl, hk, hI, K⟩ := hrel
      have c1r : wr.cell? ⟨p, 1, none⟩ = some (.slice ao L.length cc) := by rw [K.cell (by exact hpw) (by simp)]; exact c1
      have d1r : wr.cell? ⟨q, 1, none⟩ = some (.slice bo L.length dd) := by rw [K.cell (by exact hqw) (by simp)]; exact d1
      by_cases hlt : k < L.length
      · obtain ⟨x, hxk⟩ : ∃ x, L[k]? = some x := ⟨_, List.getElem?_eq_getElem hlt⟩
        obtain ⟨y, hyk⟩ : ∃ y, M[k]? = some y := ⟨_, List.getElem?_eq_getElem (by omega)⟩
        rcases hrow with ⟨h0, _⟩ | ⟨ga, ca, he, hg, hc, hx⟩
        · rw [h0] at hlt; simp at hlt
        rcases hrow' with ⟨h0, _⟩ | ⟨gb, cb, he', hg', hc', hx'⟩
        · rw [hlen, h0] at hlt; simp at hlt
        cases he
        cases he'
        have q0 : wr.cell? ⟨ga, k * 2, none⟩ = some (.int .i64 x) := by rw [K.cell (by exact hg) (by simp)]; exact (hx k x hxk).1
        have q1 : wr.cell? ⟨ga, k * 2 + 1, none⟩ = some (.int .i64 (f x)) := by rw [K.cell (by exact hg) (by simp)]; exact (hx k x hxk).2
        have r0 : wr.cell? ⟨gb, k * 2, none⟩ = some (.int .i64 y) := by rw [K.cell (by exact hg') (by simp)]; exact (hx' k y hyk).1
        have r1 : wr.cell? ⟨gb, k * 2 + 1, none⟩ = some (.int .i64 (g y)) := by rw [K.cell (by exact hg') (by simp)]; exact (hx' k y hyk).2
        have NS := fun W => neqRef W x (f x) y (g y)
        obtain ⟨z, hz⟩ : ∃ z, z = (x == y && (f x == g y && true)) := ⟨_, rfl⟩
        rw [← hz] at NS
        have HZ := Lib.hid hz
        have HXK := Lib.hid hxk
        have HYK := Lib.hid hyk
        clear hx hx' hxk hyk hz c1 d1
        cases z with
        | false =>
          have hbf : b = false := by
            cases hq : b with
            | false => rfl
            | true =>
              have hall := HBB.out.1 hq
              have hLM : L = M := by rw [HL.out, HM.out, show f = g from funext hall]
              have e1 := HXK.out
              rw [hLM, HYK.out] at e1
              have := Option.some.inj e1
              have hz := HZ.out
              rw [this, hall] at hz
              simp at hz
          have HBF := Lib.hid hbf
          clear hbf hI
          go_wp2_with fail
          go_quiet (fail)
          go_wp2
          go_ret
          exact ⟨by rw [HBF.out]; rfl, K.drewN _⟩
        | true =>
          go_wp2_with fail
          go_quiet (fail)
          go_wp2
          go_roundw
          case rel =>
            have hz := HZ.out
            simp at hz
            refine ⟨k + 1, by go_num, by omega, Lib.hid (fun j hj => ?_), K.drewN _⟩
            by_cases hjk : j < k
            · exact hI.out j hjk
            · obtain rfl : j = k := by omega
              rw [HXK.out, HYK.out, hz.1]
              refine ⟨rfl, fun x' hx' => ?_⟩
              rw [← Option.some.inj hx', ← hz.1, hz.2, hz.1]
          case measure => simp [intOf]; omega
      · have hbt : b = true := by
          rw [HBB.out]
          refine hsm.out (List.ext_getElem? fun j => ?_) (fun x hx => ?_)
          · by_cases hj : j < L.length
            · exact (hI.out j (by omega)).1
            · rw [List.getElem?_eq_none (by omega), List.getElem?_eq_none (by omega)]
          · obtain ⟨j, hj⟩ := List.mem_iff_getElem?.1 hx
            exact (hI.out j (by have := (List.getElem?_eq_some_iff.1 hj).1; omega)).2 x hj
        have HBT := Lib.hid hbt
        clear hbt hI
        go_wp2
        go_ret
        exact ⟨by rw [HBT.out]; rfl, K⟩
  · have hlenI : ¬ ((L.length : Nat) : Int) = ((M.length : Nat) : Int) := by omega
    have hlb : (((L.length : Nat) : Int) != ((M.length : Nat) : Int)) = true := by rw [bne_iff_ne]; exact hlenI
    have hbf : b = false := by
      cases hq : b with
      | false => rfl
      | true =>
        have hall := HBB.out.1 hq
        exact absurd (by rw [HL.out, HM.out, show f = g from funext hall]) hlen
    have HBF := Lib.hid hbf
    clear hbf hrow hrow'
    go_enter Try.func23, Try.ntmps23
    go_wp2_with fail
    go_quiet (fail)
    go_wp2
    go_ret
    exact ⟨by rw [HBF.out]; rfl, (Keep.refl _ _).drewN _⟩
end Go.Proofs.Ytlecdappgpbnlaa
