/-
  The document's answers: Split. No condition but that a text is not too long.
-/
import Derived.Test.YtbmbjedpeepnfaaDoorNmP
namespace Go.Proofs.YtbmbjedpeepnfaaDoor
open Go.RowKit
namespace Nm

theorem cuts_miss {x : List UInt8} (h : 47 ∉ x) : cuts (tx x) = [tx x] := by
  apply map_data_inj
  rw [cuts_data, tx_data, Lib.count_miss (index_none47 h)]
  simp [Lib.splitK, tx_data]

theorem cuts_hit {x r : List UInt8} (h : 47 ∉ x) : cuts (tx (x ++ 47 :: r)) = tx x :: cuts (tx r) := by
  apply map_data_inj
  rw [List.map_cons, cuts_data, cuts_data, tx_data, tx_data, tx_data]
  have hi := index_hit47 (r := r) h
  have hd : (x ++ 47 :: r).drop (x.length + 1) = r := by rw [List.drop_append]; simp
  rw [Lib.count_hit (by simp) hi, Nat.add_comm 1]
  conv => lhs; unfold Lib.splitK
  have hb : (Lib.index (x ++ 47 :: r) [47] == -1) = false := by rw [hi, beq_eq_false_iff_ne]; omega
  rw [hb]
  simp only [Bool.false_eq_true, if_false, hi, Int.toNat_natCast, Nat.add_zero, List.take_left', List.length_cons, List.length_nil, Nat.zero_add]
  rw [hd]

/-- a piece of a text -/
theorem data_piece (s : ByteArray) (f i : Nat) : (s.extract f i).data.toList = (s.data.toList.drop f).take (i - f) := by
  rw [Lib.extract_data]

/-- what is left of a text behind a piece -/
theorem drop_piece (s : ByteArray) {f i : Nat} (hf : f ≤ i) (hi : i < s.size) : s.data.toList.drop f = (s.extract f i).data.toList ++ s.get! i :: s.data.toList.drop (i + 1) := by
  rw [data_piece]
  have hl : i < s.data.toList.length := by rw [data_size]; exact hi
  have e : s.data.toList.drop i = s.get! i :: s.data.toList.drop (i + 1) := by
    rw [List.drop_eq_getElem_cons hl, get_at hi]
    congr 1
  rw [← e, show s.data.toList.drop i = (s.data.toList.drop f).drop (i - f) by rw [List.drop_drop]; congr 1; omega, List.take_append_drop]

theorem last_piece (s : ByteArray) (f : Nat) : s.data.toList.drop f = (s.extract f s.size).data.toList := by
  rw [data_piece, List.take_of_length_le (by rw [List.length_drop, data_size]; omega)]

/-- between the slashes -/
theorem flat_piece (s : ByteArray) {f i : Nat} (hi : i ≤ s.size) (h : ∀ j, f ≤ j → j < i → s.get! j ≠ 47) : 47 ∉ (s.extract f i).data.toList := by
  rw [data_piece]
  intro hm
  obtain ⟨j, hj, he⟩ := List.mem_iff_getElem.1 hm
  simp only [List.length_take, List.length_drop, data_size] at hj
  rw [List.getElem_take, List.getElem_drop] at he
  refine h (f + j) (by omega) (by omega) ?_
  rw [get_at (by omega), ← he]
  simp; rfl

/-- the loop's cuts: l are cut off already, from f on it is not cut yet, up to i there is no slash -/
structure Cutting (s : ByteArray) (l : List ByteArray) (f i : Nat) : Prop where
  all : ∀ x ∈ l, right x = true
  cut : cuts (tx (s.data.toList.drop 1)) = l ++ cuts (tx (s.data.toList.drop f))
  flat : ∀ j, f ≤ j → j < i → s.get! j ≠ 47

theorem Cutting.start (s : ByteArray) : Cutting s [] 1 1 := ⟨fun x hx => (by cases hx), rfl, fun j h1 h2 => absurd h2 (by omega)⟩

theorem Cutting.on {s : ByteArray} {l : List ByteArray} {f i : Nat} (h : Cutting s l f i) (hb : s.get! i ≠ 47) : Cutting s l f (i + 1) :=
  ⟨h.all, h.cut, fun j h1 h2 => by
    by_cases e : j = i
    · subst e; exact hb
    · exact h.flat j h1 (by omega)⟩

theorem Cutting.hit {s : ByteArray} {l : List ByteArray} {f i : Nat} (h : Cutting s l f i) (hf : f ≤ i) (hi : i < s.size) (hb : s.get! i = 47) :
    cuts (tx (s.data.toList.drop 1)) = l ++ (s.extract f i) :: cuts (tx (s.data.toList.drop (i + 1))) := by
  rw [h.cut, drop_piece s hf hi, hb, cuts_hit (flat_piece s (by omega) h.flat), data_tx]

theorem Cutting.last {s : ByteArray} {l : List ByteArray} {f : Nat} (h : Cutting s l f s.size) : cuts (tx (s.data.toList.drop 1)) = l ++ [s.extract f s.size] := by
  rw [h.cut, last_piece s f, cuts_miss (flat_piece s (Nat.le_refl _) h.flat), data_tx]

theorem Cutting.next {s : ByteArray} {l : List ByteArray} {f i : Nat} (h : Cutting s l f i) (hf : f ≤ i) (hi : i < s.size) (hb : s.get! i = 47) (hr : right (s.extract f i) = true) : Cutting s (l ++ [s.extract f i]) (i + 1) (i + 1) := by
  refine ⟨fun x hx => ?_, ?_, fun j h1 h2 => absurd h2 (by omega)⟩
  · rcases List.mem_append.1 hx with hx | hx
    · exact h.all x hx
    · simp at hx; rw [hx]; exact hr
  · rw [h.hit hf hi hb]; simp

theorem split_cuts {s : ByteArray} (h2 : 2 ≤ s.size) (h200 : s.size ≤ 200) (h0 : s.get! 0 = 47) : split s = if (cuts (tx (s.data.toList.drop 1))).all right then some (cuts (tx (s.data.toList.drop 1))) else none := by
  have hp : Lib.hasPrefix s.data.toList [47] = true := by
    have e := drop_piece s (Nat.le_refl 0) (show 0 < s.size by omega)
    rw [data_piece, h0] at e
    simp at e
    rw [e]
    simp [Lib.hasPrefix]
  unfold split
  rw [if_pos ⟨hp, h200⟩, if_neg (by omega)]

theorem split_zero {s : ByteArray} (h2 : 2 ≤ s.size) (h0 : s.get! 0 ≠ 47) : split s = none := by
  unfold split
  rw [if_neg]
  rintro ⟨hp, _⟩
  have hs := prefix47 hp
  refine h0 ?_
  have e := drop_piece s (Nat.le_refl 0) (show 0 < s.size by omega)
  rw [data_piece] at e
  simp at e
  rw [e] at hs
  simpa using congrArg List.head? hs

theorem split_one {s : ByteArray} (h : s.size < 2) (hn : ¬ s.toList = [47]) : split s = none := by
  unfold split
  rw [if_neg]
  rintro ⟨hp, _⟩
  have hs := prefix47 hp
  refine hn ?_
  rw [Lib.toList_data, hs, List.drop_eq_nil_of_le (by rw [data_size]; omega)]

theorem not_all {l r : List ByteArray} {x : ByteArray} (h : right x = false) : (l ++ x :: r).all right = false := by
  rw [List.all_append, List.all_cons, h]; simp
end Nm

/-- what the document's Split answers -/
def RSplitOut (s : ByteArray) (w w' : World) (e : Ending) : Prop := ∃ (l : List ByteArray) (ok : Bool) (ao : Option Addr) (c : Nat), e = .returned (.tuple #[.slice ao l.length c, .bool ok]) ∧ ((ok = true ∧ Nm.split s = some l) ∨ (ok = false ∧ Nm.split s = none ∧ l = [])) ∧ StrsP w' ao l ∧ l.length ≤ 1000 ∧ l.length ≤ c ∧ Keep [] w w'

theorem StrsP.ofOwn {w : World} {ao : Option Addr} {n c : Nat} {l : List ByteArray} (h : w.ownsRow 0 9 1 (.slice ao n c) n (l.map Value.string)) : StrsP w ao l ∧ n ≤ c ∧ l.length = n := by
  have hl : l.length = n := by have := h.1; simpa using this
  have h0 := h
  rcases h.2 with ⟨e, hx⟩ | ⟨g, cap, cur, e, _, hg, hc, _⟩
  · cases e
    exact ⟨Or.inl (List.eq_nil_of_length_eq_zero hl), Nat.le_refl _, hl⟩
  · cases e
    refine ⟨Or.inr ⟨g, 0, rfl, (Array.getElem?_eq_some_iff.1 hg).1, fun j x hx => ?_⟩, hc, hl⟩
    have := h0.cells (g := g) rfl j (.string x) (by rw [List.getElem?_map, hx]; rfl)
    rw [Addr.add_lit] at this
    exact this

set_option maxRecDepth 100000 in
set_option maxHeartbeats 6400000 in
theorem rsplit_any (s : ByteArray) (w : World) (hs : s.size ≤ 1000) : Calls Tryd.prog 31 #[.string s] w fun e w' => RSplitOut s w w' e := by
  by_cases h1 : s.toList = [47]
  · have hx : Nm.split s = some [] := by
      have : s = Nm.jtx [] := Nm.data_inj (by rw [← Lib.toList_data, h1]; rfl)
      rw [this]; exact Nm.split_nil
    have HX := Lib.hid hx
    have b1 : (s.toList == [47]) = true := by rw [beq_iff_eq]; exact h1
    clear hx h1
    go_enter Tryd.func31, Tryd.ntmps31
    go_wp2
    go_ret2
    exact ⟨[], true, none, 0, rfl, Or.inl ⟨rfl, HX.out⟩, Or.inl rfl, Nat.zero_le _, Nat.le_refl _, Keep.refl _ _⟩
  · have b1 : (s.toList == [47]) = false := by rw [beq_eq_false_iff_ne]; exact h1
    by_cases h2 : s.size < 2
    · have HX := Lib.hid (Nm.split_one h2 h1)
      have i1 : (s.size : Int) < 2 := by omega
      clear h1
      go_enter Tryd.func31, Tryd.ntmps31
      go_wp2
      go_ret2
      exact ⟨[], false, none, 0, rfl, Or.inr ⟨rfl, HX.out, rfl⟩, Or.inl rfl, Nat.zero_le _, Nat.le_refl _, Keep.refl _ _⟩
    · have i1 : ¬ (s.size : Int) < 2 := by omega
      by_cases h200 : s.size ≤ 200
      · have i2 : ¬ (200 : Int) < (s.size : Int) := by omega
        obtain ⟨c0, hc0⟩ : ∃ c0, c0 = s.get! 0 := ⟨_, rfl⟩
        have hj0 : 0 < s.size := by omega
        have e0 : s[0]'hj0 = c0 := by rw [hc0, Nm.get_at hj0]
        by_cases h47 : c0 = 47
        · subst h47
          obtain ⟨i0, hi, hz0, hz1, hz2⟩ := info_parts info9
          have HS := Lib.hid (Nm.split_cuts (by omega) h200 hc0.symm)
          clear h1 hc0
          go_enter Tryd.func31, Tryd.ntmps31
          go_wp2_with fail
          go_loopw [4, 5, 6] (fun hs f i wr => ∃ (l : List ByteArray) (fn n k : Nat), f = .int .i64 fn ∧ i = .int .i64 n ∧ l.length = k ∧ k ≤ n ∧ 1 ≤ fn ∧ n ≤ s.size + 1 ∧ fn ≤ n ∧ Hid (n ≤ s.size → Nm.Cutting s l fn n) ∧ Hid (n = s.size + 1 → Nm.split s = some l) ∧ wr.ownsRow 0 9 1 hs k (l.map Value.string) ∧ Hid (∀ x ∈ rowOf hs, w.heap.size ≤ x) ∧ Keep [] w wr) (fun _ _ i _ => s.size + 1 - (intOf i).toNat)
          case atStart => exact ⟨[], 1, 1, 0, rfl, rfl, rfl, Nat.zero_le _, Nat.le_refl _, by omega, Nat.le_refl _, Lib.hid (fun _ => Nm.Cutting.start s), Lib.hid (fun h => absurd h (by omega)), World.ownsRow_nil _ _ _ _, Lib.hid (by simp [rowOf, Value.ownBlock]), Keep.refl _ _⟩
          case round =>
            obtain ⟨l, fn, n, k, rfl, rfl, hlk, hkn, hf1, hn1, hfn, hC, hE, hown, hrow, K⟩ := hrel
            obtain ⟨hao, hcap, rfl⟩ := slice_own hown
            have HLK := Lib.hid hlk
            clear hlk
            by_cases hle : n ≤ s.size
            · have hleI : (n : Int) ≤ (s.size : Int) := by omega
              have hcase : (∃ h : n < s.size, s[n]'h ≠ 47) ∨ (n = s.size ∨ ∃ h : n < s.size, s[n]'h = 47) := by
                by_cases h : n < s.size
                · by_cases h' : s[n]'h = 47
                  · exact Or.inr (Or.inr ⟨h, h'⟩)
                  · exact Or.inl ⟨h, h'⟩
                · exact Or.inr (Or.inl (by omega))
              rcases hcase with ⟨hlt, hb⟩ | hcase
              · have HC := Lib.hid ((hC.out hle).on (by rw [Nm.get_at hlt]; exact hb))
                obtain ⟨b, hbb⟩ : ∃ b, s[n]'hlt = b := ⟨_, rfl⟩
                rw [hbb] at hb
                have hltI : (n : Int) < (s.size : Int) := by omega
                have hbn : ((b.toNat : Int) != 47) = true := by
                  rw [bne_iff_ne]
                  intro h
                  exact hb (UInt8.toNat.inj (by have : (47 : UInt8).toNat = 47 := rfl; omega))
                have hbn2 : ¬ (b.toNat : Int) = 47 := fun h => hb (UInt8.toNat.inj (by have : (47 : UInt8).toNat = 47 := rfl; omega))
                clear hb
                go_wp2
                go_roundw
                case rel => exact ⟨l, fn, n + 1, k, rfl, by go_num, HLK.out, by omega, hf1, by omega, by omega, Lib.hid (fun _ => HC.out), Lib.hid (fun h => absurd h (by omega)), hown, hrow, K⟩
                case measure => simp [intOf]; omega
              · obtain ⟨x, hx⟩ : ∃ x, x = s.extract fn n := ⟨_, rfl⟩
                have hxs : x.size ≤ s.size := by rw [hx, ByteArray.size_extract]; omega
                have cR := rright_any x wr (by omega)
                have hfnI : (fn : Int) ≤ (n : Int) := by omega
                have hkk : Hid (Nm.right x = true → (n = s.size → Nm.split s = some (l ++ [x])) ∧ (n + 1 ≤ s.size → Nm.Cutting s (l ++ [x]) (n + 1) (n + 1))) := Lib.hid (by
                  intro hr
                  refine ⟨fun h => ?_, fun h => ?_⟩
                  · subst h
                    have e := (hC.out hle).last
                    rw [← hx] at e
                    rw [HS.out, e, if_pos]
                    rw [List.all_append, List.all_eq_true.2 (hC.out hle).all]
                    simp [hr]
                  · rcases hcase with h' | ⟨hlt, hb⟩
                    · omega
                    · have := (hC.out hle).next hfn hlt (by rw [Nm.get_at hlt]; exact hb) (by rw [← hx]; exact hr)
                      rwa [← hx] at this)
                have hnn : Hid (Nm.right x = false → Nm.split s = none) := Lib.hid (by
                  intro hr
                  rcases hcase with h | ⟨hlt, hb⟩
                  · subst h
                    have e := (hC.out hle).last
                    rw [← hx] at e
                    rw [HS.out, e, if_neg (by rw [Nm.not_all hr]; simp)]
                  · have e := (hC.out hle).hit hfn hlt (by rw [Nm.get_at hlt]; exact hb)
                    rw [← hx] at e
                    rw [HS.out, e, if_neg (by rw [Nm.not_all hr]; simp)])
                have HX := Lib.hid hx
                have hext := hx.symm
                clear hx hC hE
                have hsplitcase : (n = s.size ∧ ¬ (n : Int) < (s.size : Int)) ∨ ∃ h : n < s.size, s[n]'h = 47 ∧ (n : Int) < (s.size : Int) := by
                  rcases hcase with h | ⟨h, hb⟩
                  · exact Or.inl ⟨h, by omega⟩
                  · exact Or.inr ⟨h, hb, by omega⟩
                clear hcase
                cases hr : Nm.right x with
                | false =>
                  have HN := Lib.hid (hnn.out hr)
                  rw [hr] at cR
                  clear hr hnn hkk
                  rcases hsplitcase with ⟨q0, q2⟩ | ⟨hlt, q2, q3⟩
                  all_goals
                    try clear q0
                    go_wp2_with fail
                    refine cR.mono ?_
                    rintro e w2 ⟨rfl, k2⟩
                    go_wp2
                    go_ret2
                    exact ⟨[], false, none, 0, rfl, Or.inr ⟨rfl, HN.out, rfl⟩, Or.inl rfl, Nat.zero_le _, Nat.le_refl _, K.trans k2 (by simp)⟩
                | true =>
                  have HK := Lib.hid (hkk.out hr)
                  rw [hr] at cR
                  clear hr hnn hkk
                  rcases hsplitcase with ⟨q0, q2⟩ | ⟨hlt, q2, q3⟩
                  all_goals
                    try clear q0
                    go_wp2_with fail
                    refine cR.mono ?_
                    rintro e w2 ⟨rfl, k2⟩
                    have K2 := K.trans k2 (by simp)
                    have o2 := ownsRow_keep hown k2 (fun x hx hx' => by simp at hx')
                    clear k2
                    have FA := Lib.hid (run_app_slice (P := Tryd.prog) (w2.alloc (.cells #[.string x] 9)) 29 29 9 i0 _ 1 16 Tryd.underlying29 hi hz0 hz1 hz2 rfl (by decide) _ k _ (o2.alloc (.cells #[.string x] 9)) (some ⟨w2.heap.size, 0, none⟩) 1 1 [.string x] rfl (fun h => by cases h) (by intro a ha; cases ha; exact World.news_of_block (heap_alloc_new _ _)) (fun u hu => by simp at hu; subst hu; rfl) (by unfold maxLen; omega) (by omega))
                    go_wp2_with (first
                      | (at_builtin; refine wpList_app rfl (.tmp 46) (.tmp 51) 29 29 rfl _ _ rfl rfl FA.out ?_; intro hv w8 hO; obtain ⟨ao8, cp8, rfl⟩ := hO.slice))
                    have kA : Keep (rowOf (.slice hao k hcap)) w2 w8 := (((Keep.refl [] w2).alloc (.cells #[.string x] 9)).mono (by simp)).grown hO.2.1 (fun x hx => Or.inl (mem_rowOf.2 hx))
                    have hrows : ∀ x ∈ rowOf (.slice ao8 (k + 1) cp8), w.heap.size ≤ x := fun y hy => by
                      have h1 := hO.2.2 y hy
                      have h2 := K2.size
                      have h3 : (w2.alloc (.cells #[.string x] 9)).heap.size = w2.heap.size + 1 := World.size_alloc _ _
                      rcases h1 with h1 | h1
                      · exact hrow.out y h1
                      · omega
                    go_roundw
                    case rel =>
                      refine ⟨l ++ [x], n + 1, n + 1, k + 1, by go_num, by go_num, by rw [List.length_append, HLK.out]; rfl, by omega, by omega, by omega, Nat.le_refl _, Lib.hid (fun h => HK.out.2 h), Lib.hid (fun h => HK.out.1 (by omega)), ?_, Lib.hid hrows, K2.trans kA (fun x hx => Or.inr (hrow.out x hx))⟩
                      rw [List.map_append]
                      exact hO.1
                    case measure => simp [intOf]; omega
            · have hleI : ¬ (n : Int) ≤ (s.size : Int) := by omega
              have HE := Lib.hid (hE.out (by omega))
              obtain ⟨hp, hcp, _⟩ := StrsP.ofOwn hown
              clear hC hE hown
              go_wp2
              go_ret2
              exact ⟨l, true, hao, hcap, by rw [HLK.out]; rfl, Or.inl ⟨rfl, HE.out⟩, hp, by rw [HLK.out]; omega, by rw [HLK.out]; exact hcp, K⟩
        · have HX := Lib.hid (Nm.split_zero (s := s) (by omega) (by rw [← hc0]; exact h47))
          have hbn : ((c0.toNat : Int) != 47) = true := by
            rw [bne_iff_ne]
            intro h
            exact h47 (UInt8.toNat.inj (by have : (47 : UInt8).toNat = 47 := rfl; omega))
          have hbn2 : ¬ (c0.toNat : Int) = 47 := fun h => h47 (UInt8.toNat.inj (by have : (47 : UInt8).toNat = 47 := rfl; omega))
          clear h47 hc0 h1
          go_enter Tryd.func31, Tryd.ntmps31
          go_wp2
          go_ret2
          exact ⟨[], false, none, 0, rfl, Or.inr ⟨rfl, HX.out, rfl⟩, Or.inl rfl, Nat.zero_le _, Nat.le_refl _, Keep.refl _ _⟩
      · have i2 : (200 : Int) < (s.size : Int) := by omega
        have hx : Nm.split s = none := by unfold Nm.split; rw [if_neg (fun h => h200 h.2)]
        have HX := Lib.hid hx
        clear hx h1
        go_enter Tryd.func31, Tryd.ntmps31
        go_wp2
        go_ret2
        exact ⟨[], false, none, 0, rfl, Or.inr ⟨rfl, HX.out, rfl⟩, Or.inl rfl, Nat.zero_le _, Nat.le_refl _, Keep.refl _ _⟩
end Go.Proofs.YtbmbjedpeepnfaaDoor
