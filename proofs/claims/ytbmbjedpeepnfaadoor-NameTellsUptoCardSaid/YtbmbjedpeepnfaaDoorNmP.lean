/-
  The document's answers: pieces, Width, Short. No condition but that a text is not too long.
-/
import Derived.Test.YtbmbjedpeepnfaaDoorNmO
namespace Go.Proofs.YtbmbjedpeepnfaaDoor
open Go.RowKit

theorem info3 : (Tryd.prog.info? 3).map (fun i => (i.zero, i.size, i.bytes)) = some (some (.int .i64 0), 1, 8) := by kernel_rfl
theorem info9 : (Tryd.prog.info? 9).map (fun i => (i.zero, i.size, i.bytes)) = some (some (.string ⟨#[]⟩), 1, 16) := by kernel_rfl

namespace Nm
/-- where the first n pieces end -/
def ends (s : ByteArray) (n : Nat) : List Int := (List.range n).map fun j => (posAt s (j + 1) : Int)
theorem ends_length (s : ByteArray) (n : Nat) : (ends s n).length = n := by simp [ends]
theorem ends_succ (s : ByteArray) (n : Nat) : ends s (n + 1) = ends s n ++ [(posAt s (n + 1) : Int)] := by simp [ends, List.range_succ]
theorem ends_get (s : ByteArray) {n j : Nat} (h : j < n) : (ends s n)[j]? = some (posAt s (j + 1) : Int) := by
  simp [ends, List.getElem?_map, List.getElem?_range h]
end Nm

theorem ret_str {a b : ByteArray} (h : a = b) : Ending.returned (.string a) = .returned (.string b) := by rw [h]

theorem slice_own {w : World} {base : Nat} {e : TypeId} {size : Nat} {v : Value} {n : Nat} {xs : List Value} (h : w.ownsRow base e size v n xs) : ∃ ao c, v = .slice ao n c := by
  obtain ⟨_, ao, c, e, _⟩ := RdV.ofOwn h
  exact ⟨ao, c, e⟩

/-- what pieces answers -/
def PiecesOut (s : ByteArray) (w w' : World) (e : Ending) : Prop := ∃ ao c, e = .returned (.slice ao (Lib.runeCount s) c) ∧ w'.ownsRow 0 3 1 (.slice ao (Lib.runeCount s) c) (Lib.runeCount s) ((Nm.ends s (Lib.runeCount s)).map (Value.int .i64)) ∧ Keep [] w w'

set_option maxRecDepth 100000 in
set_option maxHeartbeats 3200000 in
theorem pieces_any (s : ByteArray) (w : World) (hs : s.size ≤ 1000) : Calls Tryd.prog 61 #[.string s] w fun e w' => PiecesOut s w w' e := by
  obtain ⟨i0, hi, hz0, hz1, hz2⟩ := info_parts info3
  obtain ⟨N, hN⟩ : ∃ N, N = Lib.runeCount s := ⟨_, rfl⟩
  have hNs : N ≤ 1000 := by rw [hN]; have := Lib.runeCount_le s; omega
  have HN := Lib.hid hN
  clear hN
  go_enter Tryd.func61, Tryd.ntmps61
  go_wp2_with fail
  go_loopw [3, 4] (fun hs i wr => ∃ k p : Nat, i = .int .i64 p ∧ k ≤ N ∧ p ≤ s.size ∧ Hid (p = Nm.posAt s k) ∧ wr.ownsRow 0 3 1 hs k ((Nm.ends s k).map (Value.int .i64)) ∧ Hid (∀ x ∈ rowOf hs, w.heap.size ≤ x) ∧ Keep [] w wr) (fun _ i _ => s.size - (intOf i).toNat)
  case atStart => exact ⟨0, 0, rfl, Nat.zero_le _, Nat.zero_le _, Lib.hid rfl, World.ownsRow_nil _ _ _ _, Lib.hid (by simp [rowOf, Value.ownBlock]), Keep.refl _ _⟩
  case round =>
    obtain ⟨k, p, rfl, hk, hp, hpk, hown, hrow, K⟩ := hrel
    obtain ⟨hao, hcap, rfl⟩ := slice_own hown
    by_cases hlt : p < s.size
    · have hkN : k < N := by
        rcases Nat.lt_or_ge k N with h | h
        · exact h
        · have e : k = Lib.runeCount s := by rw [← HN.out]; omega
          have := Nm.posAt_end s
          rw [← e, ← hpk.out] at this; omega
      have hin := Nm.decode_in s p hlt
      have hpos := Nm.decode_pos s p hlt
      have hsz := Nm.size_from s p
      have cC := char_any (s.extract p s.size) wr (by omega)
      obtain ⟨D, hD⟩ : ∃ D, D = (Utf8.decode s p).2 := ⟨_, rfl⟩
      have hmx : max ((Nm.charP (s.extract p s.size)).1 : Int) 1 = (D : Int) := by
        rcases Nm.charP_zero hlt with ⟨hx, hd⟩ | ⟨hx, _⟩
        · rw [hx, hD, hd]; rfl
        · rw [hx, hD]
          show max ((Utf8.decode s p).2 : Int) 1 = _
          omega
      have hnext : p + D = Nm.posAt s (k + 1) := by
        rw [hD]
        show p + (Utf8.decode s p).2 = Nm.posAt s k + (Utf8.decode s (Nm.posAt s k)).2
        rw [← hpk.out]
      rw [← hD] at hin hpos
      have HMX := Lib.hid hmx
      have HNX := Lib.hid hnext
      have hadd : IntKind.i64.wrap ((p : Int) + (D : Int)) = ((p + D : Nat) : Int) := by rw [IntWalk.i64_in _ (by omega)]; omega
      clear hmx hnext hD hsz
      go_wp2_with fail
      refine cC.mono ?_
      rintro e w2 ⟨n, v, rfl, hn, hv, k2⟩
      have hmx2 : max n 1 = (D : Int) := by rw [hn]; exact HMX.out
      have K2 := K.trans k2 (by simp)
      have o2 := ownsRow_keep hown k2 (fun x hx hx' => by simp at hx')
      clear hn hv hown cC K k2
      have FA := Lib.hid (run_app_slice (P := Tryd.prog) (w2.alloc (.cells #[.int .i64 ((p + D : Nat) : Int)] 3)) 59 59 3 i0 _ 1 8 Tryd.underlying59 hi hz0 hz1 hz2 rfl (by decide) _ k _ (o2.alloc (.cells #[.int .i64 ((p + D : Nat) : Int)] 3)) (some ⟨w2.heap.size, 0, none⟩) 1 1 [.int .i64 ((p + D : Nat) : Int)] rfl (fun h => by cases h) (by intro a ha; cases ha; exact World.news_of_block (heap_alloc_new _ _)) (fun u hu => by simp at hu; subst hu; rfl) (by unfold maxLen; omega) (by omega))
      go_wp2_with (first
        | (at_builtin; refine wpList_app rfl (.tmp 22) (.tmp 24) 59 59 rfl _ _ rfl rfl FA.out ?_; intro hv w8 hO; obtain ⟨ao8, cp8, rfl⟩ := hO.slice))
      have kA : Keep (rowOf (.slice hao k hcap)) w2 w8 := (((Keep.refl [] w2).alloc (.cells #[.int .i64 ((p + D : Nat) : Int)] 3)).mono (by simp)).grown hO.2.1 (fun x hx => Or.inl (mem_rowOf.2 hx))
      have hrows : ∀ x ∈ rowOf (.slice ao8 (k + 1) cp8), w.heap.size ≤ x := fun x hx => by
        have h1 := hO.2.2 x hx
        have h2 := K2.size
        have h3 : (w2.alloc (.cells #[.int .i64 ((p + D : Nat) : Int)] 3)).heap.size = w2.heap.size + 1 := World.size_alloc _ _
        rcases h1 with h1 | h1
        · exact hrow.out x h1
        · omega
      go_roundw
      case rel =>
        refine ⟨k + 1, p + D, rfl, by omega, by omega, HNX, ?_, Lib.hid hrows, K2.trans kA (fun x hx => Or.inr (hrow.out x hx))⟩
        rw [Nm.ends_succ, List.map_append, ← HNX.out]
        exact hO.1
      case measure => simp [intOf]; omega
    · have hkN : k = N := by
        rcases Nat.lt_or_ge k N with h | h
        · have := Nm.posAt_low s (k := k) (by rw [← HN.out]; exact h)
          rw [← hpk.out] at this; omega
        · omega
      subst hkN
      go_wp2
      go_ret
      exact ⟨hao, hcap, by rw [← HN.out]; rfl, by rw [← HN.out]; exact hown, K⟩

set_option maxRecDepth 100000 in
set_option maxHeartbeats 800000 in
theorem rwidth_any (s : ByteArray) (w : World) (hs : s.size ≤ 1000) : Calls Tryd.prog 35 #[.string s] w fun e w' => e = .returned (.int .i64 (Lib.runeCount s)) ∧ Keep [] w w' := by
  have c := pieces_any s w hs
  go_enter Tryd.func35, Tryd.ntmps35
  go_wp2_with fail
  refine c.mono ?_
  rintro e w1 ⟨ao, cap, rfl, _, k1⟩
  go_wp2
  go_ret
  exact ⟨rfl, k1⟩

set_option maxRecDepth 100000 in
set_option maxHeartbeats 800000 in
theorem rshort_any (s : ByteArray) (n : Int) (w : World) (hs : s.size ≤ 1000) : Calls Tryd.prog 36 #[.string s, .int .i64 n] w fun e w' => e = .returned (.string (Nm.short s n)) ∧ Keep [] w w' := by
  have c := pieces_any s w hs
  have hc := Lib.runeCount_le s
  by_cases h1 : n < 1
  · have hx : Nm.short s n = ⟨#[]⟩ := by unfold Nm.short; rw [if_pos h1]
    have HX := Lib.hid hx
    clear hx c
    go_enter Tryd.func36, Tryd.ntmps36
    go_wp2
    go_ret
    exact ⟨ret_str HX.out.symm, Keep.refl _ _⟩
  · by_cases h2 : (Lib.runeCount s : Int) ≤ n
    · have hx : Nm.short s n = s := by unfold Nm.short; rw [if_neg h1, if_pos h2]
      have HX := Lib.hid hx
      clear hx
      go_enter Tryd.func36, Tryd.ntmps36
      go_wp2_with fail
      refine c.mono ?_
      rintro e w1 ⟨ao, cap, rfl, _, k1⟩
      go_wp2
      go_ret
      exact ⟨ret_str HX.out.symm, k1⟩
    · have hx : Nm.short s n = s.extract 0 (Nm.posAt s (n.toNat - 1)) ++ Nm.more := by unfold Nm.short; rw [if_neg h1, if_neg h2]
      by_cases h3 : n = 1
      · subst h3
        have hx1 : Nm.short s 1 = ⟨#[226, 128, 166]⟩ := by
          rw [hx]
          have e : s.extract 0 (Nm.posAt s ((1 : Int).toNat - 1)) = ⟨#[]⟩ := by
            apply ByteArray.ext
            apply Array.toList_inj.1
            rw [Lib.extract_from_zero]
            rfl
          rw [e]
          rfl
        have HX := Lib.hid hx1
        clear hx hx1
        go_enter Tryd.func36, Tryd.ntmps36
        go_wp2_with fail
        refine c.mono ?_
        rintro e w1 ⟨ao, cap, rfl, _, k1⟩
        go_wp2
        go_ret
        exact ⟨ret_str HX.out.symm, k1⟩
      · obtain ⟨m, rfl⟩ : ∃ m : Nat, n = ((m + 2 : Nat) : Int) := ⟨(n - 2).toNat, by omega⟩
        have hmN : m < Lib.runeCount s := by omega
        have hpl := Nm.posAt_le s (k := m + 1) (by omega)
        obtain ⟨q, hq⟩ : ∃ q, q = Nm.posAt s (m + 1) := ⟨_, rfl⟩
        rw [← hq] at hpl
        have hx1 : Nm.short s ((m + 2 : Nat) : Int) = s.extract 0 q ++ ⟨#[226, 128, 166]⟩ := by
          rw [hx, Int.toNat_natCast, show m + 2 - 1 = m + 1 by omega, ← hq]; rfl
        have hget := Nm.ends_get s hmN
        rw [← hq] at hget
        have hes : (s.extract 0 q).size = q := by rw [ByteArray.size_extract]; omega
        have hsum : ¬ 9223372036854775807 < q + 3 := by omega
        have hsub : IntKind.i64.wrap (((m + 2 : Nat) : Int) - 2) = (m : Int) := by rw [IntWalk.i64_in _ (by omega)]; omega
        have hqI : (q : Int) ≤ (s.size : Int) := by omega
        have hmI : (m : Int) < (Lib.runeCount s : Int) := by omega
        have HX := Lib.hid hx1
        have HG := Lib.hid hget
        clear hx hx1 hget hq
        go_enter Tryd.func36, Tryd.ntmps36
        go_wp2_with fail
        refine c.mono ?_
        rintro e w1 ⟨ao, cap, rfl, ho, k1⟩
        obtain ⟨_, ao', c', he, _, hnn, hcell⟩ := RdV.ofOwn ho
        cases he
        cases ao with
        | none => have := (hnn rfl).1; omega
        | some a =>
          have hcl : w1.cell? (a.add m) = some (.int .i64 (q : Int)) := hcell a rfl m _ (by rw [List.getElem?_map, HG.out]; rfl)
          clear hcell hnn ho
          go_wp2
          go_ret
          exact ⟨ret_str HX.out.symm, k1⟩
end Go.Proofs.YtbmbjedpeepnfaaDoor
