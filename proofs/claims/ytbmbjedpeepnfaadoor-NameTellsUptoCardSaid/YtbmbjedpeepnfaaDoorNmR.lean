/-
  The document's answers: Join, Below. No condition but that texts are not too long.
-/
import Derived.Test.YtbmbjedpeepnfaaDoorNmQ
import Derived.Test.YtbmbjedpeepnfaaDoorNmL
namespace Go.Proofs.YtbmbjedpeepnfaaDoor
open Go.RowKit
namespace Nm

/-- what the document's Join has put together of k names -/
def jpre (l : List ByteArray) (k : Nat) : ByteArray := if k = 0 then ⟨#[]⟩ else jtx (l.take k)

theorem jpre_next {l : List ByteArray} {k : Nat} {x : ByteArray} (h : l[k]? = some x) : jpre l k ++ ⟨#[47]⟩ ++ x = jpre l (k + 1) := by
  have hk := (List.getElem?_eq_some_iff.1 h).1
  have e : l.take (k + 1) = l.take k ++ [x] := by rw [List.take_add_one, h]; rfl
  have e2 : jpre l (k + 1) = jtx (l.take (k + 1)) := by unfold jpre; rw [if_neg (by omega)]
  rw [e2, e, jtx_snoc]
  unfold jpre
  by_cases h0 : k = 0
  · subst h0
    rw [if_pos rfl, List.take_zero, if_pos rfl]
    show ByteArray.empty ++ _ ++ _ = _
    rw [ByteArray.empty_append]
    rfl
  · have hne : l.take k ≠ [] := fun h => by
      have := congrArg List.length h
      rw [List.length_take, List.length_nil] at this
      omega
    rw [if_neg h0, if_neg hne]
    rfl

theorem jpre_no {l : List ByteArray} {k : Nat} (h : 200 < (jpre l (k + 1)).size) : split (jtx l) ≠ some l := by
  intro hs
  have h1 := (split_some hs).2.2
  have h2 := jtx_take_le l (k + 1)
  unfold jpre at h
  rw [if_neg (by omega)] at h
  omega

theorem jpre_wrong {l : List ByteArray} {x : ByteArray} (hx : x ∈ l) (h : right x = false) : split (jtx l) ≠ some l := by
  intro hs
  rw [(split_some hs).2.1 x hx] at h
  cases h

theorem jpre_end {l : List ByteArray} (h0 : l ≠ []) : jpre l l.length = jtx l := by
  unfold jpre
  rw [if_neg (by simpa using h0), List.take_length]
end Nm

set_option maxRecDepth 100000 in
set_option maxHeartbeats 6400000 in
theorem rjoin_any (ao : Option Addr) (l : List ByteArray) (c : Nat) (w : World) (S : StrsP w ao l) (hl : l.length ≤ 1000) (hz : ∀ x ∈ l, x.size ≤ 10000000) :
    Calls Tryd.prog 32 #[.slice ao l.length c] w fun e w' => JoinOut l w w' e := by
  by_cases h0 : l = []
  · subst h0
    clear S
    go_enter Tryd.func32, Tryd.ntmps32
    go_wp2
    go_ret2
    exact ⟨_, true, rfl, Or.inl ⟨rfl, Nm.split_nil, by decide +kernel⟩, Keep.refl _ _⟩
  · rcases S with h | ⟨b, o, rfl, hb, Cx⟩
    · exact absurd h h0
    have CX := Lib.hid Cx
    have HZ := Lib.hid hz
    have H0 := Lib.hid h0
    have hl0 : ¬ ((l.length : Nat) : Int) = 0 := by have : l.length ≠ 0 := by simpa using h0
                                                    omega
    have hl0b : (((l.length : Nat) : Int) == 0) = false := by rw [beq_eq_false_iff_ne]; exact hl0
    clear Cx hz h0
    go_enter Tryd.func32, Tryd.ntmps32
    go_wp2_with fail
    go_loopw [4, 5] (fun s i wr => ∃ (k : Nat) (X : ByteArray), i = .int .i64 k ∧ s = .string X ∧ k ≤ l.length ∧ X.size ≤ 200 ∧ Hid (X = Nm.jpre l k) ∧ Hid (∀ j x, j < k → l[j]? = some x → Nm.right x = true) ∧ Keep [] w wr) (fun _ i _ => l.length - (intOf i).toNat)
    case atStart => exact ⟨0, ⟨#[]⟩, rfl, rfl, Nat.zero_le _, by decide, Lib.hid rfl, Lib.hid (fun j x h => absurd h (by omega)), Keep.refl _ _⟩
    case round =>
      obtain ⟨k, X, rfl, rfl, hk, hX, hXe, hR, K⟩ := hrel
      by_cases hlt : k < l.length
      · obtain ⟨x, hxk⟩ : ∃ x, l[k]? = some x := ⟨_, List.getElem?_eq_getElem hlt⟩
        have hxz := HZ.out x (List.mem_of_getElem? hxk)
        have hcell : ∀ W, Keep [] wr W → W.cell? ⟨b, o + k, none⟩ = some (.string x) := fun W kW => by
          have KW := K.trans kW (by simp)
          rw [KW.cell (by exact hb) (by simp)]; exact CX.out k x hxk
        have hc0 := hcell wr (Keep.refl _ _)
        have HC := Lib.hid hcell
        have hnx := Nm.jpre_next hxk
        rw [← hXe.out] at hnx
        have cR := rright_any x wr (by omega)
        have HXK := Lib.hid hxk
        clear hxk hcell
        cases hr : Nm.right x with
        | false =>
          have HN := Lib.hid (Nm.jpre_wrong (List.mem_of_getElem? HXK.out) hr)
          rw [hr] at cR
          clear hr hnx
          go_wp2_with fail
          refine cR.mono ?_
          rintro e w2 ⟨rfl, k2⟩
          go_wp2
          go_ret2
          exact ⟨_, false, rfl, Or.inr ⟨rfl, HN.out, rfl⟩, K.trans k2 (by simp)⟩
        | true =>
          have HR := Lib.hid hr
          rw [hr] at cR
          clear hr
          have hns : (Nm.jpre l (k + 1)).size = X.size + 1 + x.size := by
            rw [← hnx, ByteArray.size_append, ByteArray.size_append]; rfl
          have hadd1 : IntKind.i64.wrap ((X.size : Int) + 1) = ((X.size + 1 : Nat) : Int) := by rw [IntWalk.i64_in _ (by omega)]; omega
          have hadd2 : IntKind.i64.wrap (((X.size + 1 : Nat) : Int) + (x.size : Int)) = ((X.size + 1 + x.size : Nat) : Int) := by rw [IntWalk.i64_in _ (by omega)]; omega
          obtain ⟨L, hL⟩ : ∃ L : Nat, L = X.size + 1 + x.size := ⟨_, rfl⟩
          obtain ⟨L1, hL1⟩ : ∃ L : Nat, L = X.size + 1 := ⟨_, rfl⟩
          have hadd1' : IntKind.i64.wrap ((X.size : Int) + 1) = (L1 : Int) := by rw [hadd1, hL1]
          have hadd2' : IntKind.i64.wrap ((L1 : Int) + (x.size : Int)) = (L : Int) := by rw [hL1, hadd2, hL]
          have hs1 : ¬ 9223372036854775807 < X.size + 1 := by omega
          have hs2 : ¬ 9223372036854775807 < X.size + 1 + x.size := by omega
          by_cases h200 : L ≤ 200
          · have h200I : ¬ (200 : Int) < (L : Int) := by omega
            have HNX := Lib.hid hnx
            have hN2 : (Nm.jpre l (k + 1)).size ≤ 200 := by omega
            clear hnx hns hadd1 hadd2 hL hL1
            go_wp2_with fail
            refine cR.mono ?_
            rintro e w2 ⟨rfl, k2⟩
            have hc2 := HC.out w2 k2
            go_wp2_with fail
            go_roundw
            case rel =>
              refine ⟨k + 1, Nm.jpre l (k + 1), by go_num, by rw [← HNX.out], by omega, hN2, Lib.hid rfl, Lib.hid (fun j y hj hy => ?_), K.trans k2 (by simp)⟩
              by_cases hjk : j < k
              · exact hR.out j y hjk hy
              · obtain rfl : j = k := by omega
                rw [HXK.out] at hy
                rw [← Option.some.inj hy]; exact HR.out
            case measure => simp [intOf]; omega
          · have h200I : (200 : Int) < (L : Int) := by omega
            have HN := Lib.hid (Nm.jpre_no (l := l) (k := k) (by omega))
            clear hnx hns hadd1 hadd2 hL hL1
            go_wp2_with fail
            refine cR.mono ?_
            rintro e w2 ⟨rfl, k2⟩
            have hc2 := HC.out w2 k2
            go_wp2
            go_ret2
            exact ⟨_, false, rfl, Or.inr ⟨rfl, HN.out, rfl⟩, K.trans k2 (by simp)⟩
      · obtain rfl : k = l.length := by omega
        have hXj : X = Nm.jtx l := by rw [hXe.out]; exact Nm.jpre_end H0.out
        have hsp : Nm.split (Nm.jtx l) = some l := Nm.split_right (fun x hx => by
          obtain ⟨j, hj⟩ := List.mem_iff_getElem?.1 hx
          exact hR.out j x (List.getElem?_eq_some_iff.1 hj).1 hj) (by rw [← hXj]; exact hX)
        have HXJ := Lib.hid hXj
        have HSP := Lib.hid hsp
        clear hXj hsp hXe hR
        go_wp2
        go_ret2
        exact ⟨X, true, rfl, Or.inl ⟨rfl, HSP.out, HXJ.out⟩, K⟩

theorem RSplitOut.yes {s : ByteArray} {w w' : World} {e : Ending} {l : List ByteArray} (h : RSplitOut s w w' e) (hl : Nm.split s = some l) : ∃ ao c, e = .returned (.tuple #[.slice ao l.length c, .bool true]) ∧ StrsP w' ao l ∧ l.length ≤ 1000 ∧ l.length ≤ c ∧ Keep [] w w' := by
  obtain ⟨l', ok, ao, c, he, h1, h2, h3, h4, h5⟩ := h
  rcases h1 with ⟨rfl, h⟩ | ⟨_, h, _⟩
  · rw [hl] at h
    obtain rfl := Option.some.inj h
    exact ⟨ao, c, he, h2, h3, h4, h5⟩
  · rw [hl] at h; cases h

theorem RSplitOut.no {s : ByteArray} {w w' : World} {e : Ending} (h : RSplitOut s w w' e) (hl : Nm.split s = none) : ∃ ao c, e = .returned (.tuple #[.slice ao 0 c, .bool false]) ∧ Keep [] w w' := by
  obtain ⟨l', ok, ao, c, he, h1, h2, h3, h4, h5⟩ := h
  rcases h1 with ⟨_, h⟩ | ⟨rfl, h, rfl⟩
  · rw [hl] at h; cases h
  · exact ⟨ao, c, he, h5⟩

set_option maxRecDepth 100000 in
set_option maxHeartbeats 6400000 in
theorem rbelow_any (s t : ByteArray) (w : World) (hs : s.size ≤ 1000) (ht : t.size ≤ 1000) : Calls Tryd.prog 37 #[.string s, .string t] w fun e w' => e = .returned (.bool (Nm.below s t)) ∧ Keep [] w w' := by
  have hsX : Nm.split s = none ∨ ∃ a, Nm.split s = some a := by cases Nm.split s <;> simp
  have hsT : Nm.split t = none ∨ ∃ a, Nm.split t = some a := by cases Nm.split t <;> simp
  rcases hsX with hA | ⟨a, hA⟩
  · have HX := Lib.hid (Nm.below_none hA (t := t)).1
    have HA := Lib.hid hA
    clear hA hsT
    go_enter Tryd.func37, Tryd.ntmps37
    go_wp2_with fail
    refine (rsplit_any s w hs).mono ?_
    intro e w1 o
    obtain ⟨aa, ca, rfl, k1⟩ := o.no HA.out
    clear o
    go_wp2_with fail
    refine (rsplit_any t w1 ht).mono ?_
    rintro e w2 ⟨b, okb, ab, cb, rfl, _, _, _, _, k2⟩
    go_wp2
    go_ret
    exact ⟨ret_bool HX.out.symm, k1.trans k2 (by simp)⟩
  · rcases hsT with hB | ⟨b, hB⟩
    · have HX := Lib.hid (Nm.below_none hB (t := s)).2
      have HA := Lib.hid hA
      have HB := Lib.hid hB
      clear hA hB
      go_enter Tryd.func37, Tryd.ntmps37
      go_wp2_with fail
      refine (rsplit_any s w hs).mono ?_
      intro e w1 o
      obtain ⟨aa, ca, rfl, _, _, _, k1⟩ := o.yes HA.out
      clear o
      go_wp2_with fail
      refine (rsplit_any t w1 ht).mono ?_
      intro e w2 o
      obtain ⟨ab, cb, rfl, k2⟩ := o.no HB.out
      clear o
      go_wp2
      go_ret
      exact ⟨ret_bool HX.out.symm, k1.trans k2 (by simp)⟩
    · have hx := Nm.below_of hA hB
      have HX := Lib.hid hx
      have HA := Lib.hid hA
      have HB := Lib.hid hB
      clear hA hB hx
      go_enter Tryd.func37, Tryd.ntmps37
      go_wp2_with fail
      refine (rsplit_any s w hs).mono ?_
      intro e w1 o
      obtain ⟨aa, ca, rfl, sa, la, ca', k1⟩ := o.yes HA.out
      clear o
      go_wp2_with fail
      refine (rsplit_any t w1 ht).mono ?_
      intro e w2 o
      obtain ⟨ab, cb, rfl, sb, lb, cb', k2⟩ := o.yes HB.out
      have K2 := k1.trans k2 (by simp)
      have SA := Lib.hid (sa.keep k2)
      have SB := Lib.hid sb
      clear o sa sb k1 k2
      by_cases hle : b.length ≤ a.length
      · have hleI : ¬ (a.length : Int) < (b.length : Int) := by omega
        have hx : Nm.below s t = decide (a.take b.length = b) := by rw [HX.out]; simp [hle]
        have HX2 := Lib.hid hx
        clear hx HX
        go_wp2_with fail
        go_loopw [9] (fun i wr => ∃ k : Nat, i = .int .i64 k ∧ k ≤ b.length ∧ Hid (∀ j, j < k → a[j]? = b[j]?) ∧ Keep [] w2 wr) (fun i _ => b.length - (intOf i).toNat)
        case atStart => exact ⟨0, rfl, Nat.zero_le _, Lib.hid (fun j h => absurd h (by omega)), Keep.refl _ _⟩
        case round =>
          obtain ⟨k, rfl, hk, hE, K⟩ := hrel
          by_cases hlt : k < b.length
          · obtain ⟨x, hxk⟩ : ∃ x, a[k]? = some x := ⟨_, List.getElem?_eq_getElem (by omega)⟩
            obtain ⟨y, hyk⟩ : ∃ y, b[k]? = some y := ⟨_, List.getElem?_eq_getElem hlt⟩
            rcases SA.out with h | ⟨ga, oa, rfl, hga, Ca⟩
            · rw [h] at hle; simp at hle; rw [hle] at hlt; simp at hlt
            rcases SB.out with h | ⟨gb, ob, rfl, hgb, Cb⟩
            · rw [h] at hlt; simp at hlt
            have ca0 : wr.cell? ⟨ga, oa + k, none⟩ = some (.string x) := by rw [K.cell (by exact hga) (by simp)]; exact Ca k x hxk
            have cb0 : wr.cell? ⟨gb, ob + k, none⟩ = some (.string y) := by rw [K.cell (by exact hgb) (by simp)]; exact Cb k y hyk
            have hkaI : (k : Int) < (a.length : Int) := by omega
            have hka : k < a.length := by omega
            have HXK := Lib.hid hxk
            have HYK := Lib.hid hyk
            clear hxk hyk Ca Cb
            by_cases hxy : x = y
            · subst hxy
              go_wp2_with fail
              go_region
              go_wp2
              go_roundw
              case rel =>
                refine ⟨k + 1, by go_num, by omega, Lib.hid (fun j hj => ?_), K.drew⟩
                by_cases hjk : j < k
                · exact hE.out j hjk
                · obtain rfl : j = k := by omega
                  rw [HXK.out, HYK.out]
              case measure => simp [intOf]; omega
            · have hxl : ¬ x.toList = y.toList := fun h => hxy (Nm.data_inj (by rw [← Lib.toList_data, h, Lib.toList_data]))
              have hxb : (x.toList == y.toList) = false := by rw [beq_eq_false_iff_ne]; exact hxl
              have hno : Nm.below s t = false := by
                rw [HX2.out, decide_eq_false_iff_not]
                intro h
                have h1 : (a.take b.length)[k]? = a[k]? := by rw [List.getElem?_take, if_pos hlt]
                rw [h, HYK.out, HXK.out] at h1
                exact hxy (Option.some.inj h1).symm
              have HNO := Lib.hid hno
              clear hno hxy hxl
              go_wp2_with fail
              go_region
              go_wp2
              go_ret
              exact ⟨ret_bool HNO.out.symm, K2.trans K.drew (by simp)⟩
          · have hyes : Nm.below s t = true := by
              rw [HX2.out, decide_eq_true_eq]
              apply List.ext_getElem?
              intro j
              by_cases hj : j < b.length
              · rw [List.getElem?_take, if_pos hj]; exact hE.out j (by omega)
              · have hbn : b[j]? = none := List.getElem?_eq_none (by omega)
                rw [List.getElem?_take, if_neg hj, hbn]
            have HY := Lib.hid hyes
            clear hyes hE
            go_wp2
            go_ret
            exact ⟨ret_bool HY.out.symm, K2.trans K (by simp)⟩
      · have hleI : (a.length : Int) < (b.length : Int) := by omega
        have hno : Nm.below s t = false := by rw [HX.out]; simp [hle]
        have HNO := Lib.hid hno
        clear hno HX
        go_wp2
        go_ret
        exact ⟨ret_bool HNO.out.symm, K2⟩
end Go.Proofs.YtbmbjedpeepnfaaDoor
