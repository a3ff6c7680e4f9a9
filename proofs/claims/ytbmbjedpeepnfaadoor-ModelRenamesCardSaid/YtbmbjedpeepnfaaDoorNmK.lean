/-
  Package name: Join. No condition but that the names are not too long, and that the library's tables are laid.
-/
import Derived.Test.YtbmbjedpeepnfaaDoorNmJ
namespace Go.Proofs.YtbmbjedpeepnfaaDoor
open Go.RowKit

/-- a row of texts that is read: the cells at a place hold them -/
def StrsP (w : World) (ao : Option Addr) (l : List ByteArray) : Prop := l = [] ∨ ∃ b o, ao = some ⟨b, o, none⟩ ∧ b < w.heap.size ∧ ∀ (j : Nat) x, l[j]? = some x → w.cell? ⟨b, o + j, none⟩ = some (.string x)

theorem StrsP.keep {w w' : World} {ao : Option Addr} {l : List ByteArray} (h : StrsP w ao l) (k : Keep [] w w') : StrsP w' ao l := by
  rcases h with h | ⟨b, o, h1, h2, h3⟩
  · exact Or.inl h
  · have := k.size
    exact Or.inr ⟨b, o, h1, by omega, fun j x hx => by rw [k.cell (by exact h2) (by simp)]; exact h3 j x hx⟩

theorem Strs.p {w : World} {ao : Option Addr} {l : List ByteArray} (h : Strs w ao l) : StrsP w ao l := by
  rcases h with ⟨_, h⟩ | ⟨b, h1, h2, _⟩
  · exact Or.inl h
  · exact Or.inr ⟨b, 0, h1, h2.lt, fun j x hx => by rw [Nat.zero_add, h2.cell j, List.getElem?_map, hx]; rfl⟩

theorem StrsP.take {w : World} {ao : Option Addr} {l : List ByteArray} (h : StrsP w ao l) (k : Nat) : StrsP w ao (l.take k) := by
  rcases h with h2 | ⟨b, o, h1, h2, h3⟩
  · exact Or.inl (by rw [h2]; simp)
  · refine Or.inr ⟨b, o, h1, h2, fun j x hx => h3 j x ?_⟩
    rw [List.getElem?_take] at hx
    split at hx
    · exact hx
    · cases hx

/-- Equal of two rows of texts -/
theorem equalP (aa ab : Option Addr) (a b : List ByteArray) (w : World) (ha : Strs w aa a) (hb : StrsP w ab b) (hla : a.length ≤ 1000) (hlb : b.length ≤ 1000) (c d : Nat) :
    Calls Tryd.prog 57 #[.slice aa a.length c, .slice ab b.length d] w fun e w' => e = .returned (.bool (decide (a = b))) ∧ Keep [] w w' := by
  by_cases hle : a.length = b.length
  · rcases ha with ⟨rfl, rfl⟩ | ⟨ba, rfl, Ba, _⟩
    · obtain rfl : b = [] := List.eq_nil_of_length_eq_zero hle.symm
      refine (Tryd.slices_Equal_string_empty none ab c 0 d w (by omega)).mono ?_
      rintro e w' ⟨rfl, rfl⟩
      exact ⟨by simp, Keep.refl _ _⟩
    · rcases hb with rfl | ⟨bb, o, rfl, _, Bb⟩
      · obtain rfl : a = [] := List.eq_nil_of_length_eq_zero hle
        refine (Tryd.slices_Equal_string_empty (some ⟨ba, 0, none⟩) ab c 0 d w (by omega)).mono ?_
        rintro e w' ⟨rfl, rfl⟩
        exact ⟨by simp, Keep.refl _ _⟩
      · refine (Tryd.slices_Equal_string ba 0 a.length c bb o b.length d a b w (Nat.le_refl _) (Nat.le_refl _) (by omega) (by omega) (fun j hj => ?_) (fun j hj => ?_)).mono ?_
        · rw [Nat.zero_add, Ba.cell j, List.getElem?_map, List.getD, List.getElem?_eq_getElem hj]; rfl
        · rw [Bb j b[j] (List.getElem?_eq_getElem hj), List.getD, List.getElem?_eq_getElem hj]; rfl
        · rintro e w' ⟨rfl, q, rfl⟩
          exact ⟨by rw [List.take_length, List.take_length], (Keep.refl _ _).drewN q⟩
  · refine (Tryd.slices_Equal_string_lens aa ab a.length c b.length d w hle).mono ?_
    rintro e w' ⟨rfl, rfl⟩
    have : a ≠ b := fun h => hle (by rw [h])
    exact ⟨by simp [this], Keep.refl _ _⟩

/-- strings.Join of a row of names, slashes between them -/
theorem joins_any (ao : Option Addr) (l : List ByteArray) (c : Nat) (w : World) (S : StrsP w ao l) (hl : l.length ≤ 1000) (hc : l.length ≤ c) (hj : (Nm.jl l).length ≤ 140737488355328) :
    Calls Tryd.prog 56 #[.slice ao l.length c, .string ⟨#[47]⟩] w fun e w' => e = .returned (.string (Nm.tx (Nm.jl l))) ∧ Keep [] w w' := by
  rcases S with rfl | ⟨b, o, rfl, hb, hx⟩
  · refine (Tryd.strings_Join_none ao c ⟨#[47]⟩ w).mono ?_
    rintro e w' ⟨rfl, rfl⟩
    exact ⟨rfl, Keep.refl _ _⟩
  · refine (Tryd.strings_Join b o c l ⟨#[47]⟩ w hx hb (by omega) hc hj).mono ?_
    rintro e w' ⟨rfl, k⟩
    exact ⟨rfl, Keep.ofBelow k⟩

/-- what Join answers -/
def JoinOut (l : List ByteArray) (w w' : World) (e : Ending) : Prop := ∃ (s : ByteArray) (ok : Bool), e = .returned (.tuple #[.string s, .bool ok]) ∧ ((ok = true ∧ Nm.split (Nm.jtx l) = some l ∧ s = Nm.jtx l) ∨ (ok = false ∧ Nm.split (Nm.jtx l) ≠ some l ∧ s = ⟨#[]⟩)) ∧ Keep [] w w'

theorem JoinOut.yes {l : List ByteArray} {w w' : World} {e : Ending} (h : JoinOut l w w' e) (hl : Nm.split (Nm.jtx l) = some l) : e = .returned (.tuple #[.string (Nm.jtx l), .bool true]) ∧ Keep [] w w' := by
  obtain ⟨s, ok, he, h1, h2⟩ := h
  rcases h1 with ⟨rfl, _, rfl⟩ | ⟨_, h, _⟩
  · exact ⟨he, h2⟩
  · exact absurd hl h

theorem JoinOut.no {l : List ByteArray} {w w' : World} {e : Ending} (h : JoinOut l w w' e) (hl : Nm.split (Nm.jtx l) ≠ some l) : e = .returned (.tuple #[.string ⟨#[]⟩, .bool false]) ∧ Keep [] w w' := by
  obtain ⟨s, ok, he, h1, h2⟩ := h
  rcases h1 with ⟨_, h, _⟩ | ⟨rfl, _, rfl⟩
  · exact absurd h hl
  · exact ⟨he, h2⟩

set_option maxRecDepth 100000 in
set_option maxHeartbeats 1600000 in
theorem join_any (ao : Option Addr) (l : List ByteArray) (c : Nat) (w : World) (S : StrsP w ao l) (hl : l.length ≤ 1000) (hc : l.length ≤ c) (hj : (Nm.jl l).length ≤ 140737488355328) (T : Tabs w) :
    Calls Tryd.prog 25 #[.slice ao l.length c] w fun e w' => JoinOut l w w' e := by
  have cJ := joins_any ao l c w S hl hc hj
  obtain ⟨X, hX⟩ : ∃ X, X = Nm.tx (Nm.jl l) := ⟨_, rfl⟩
  have hXs : X.size = (Nm.jl l).length := by rw [hX, ← Nm.data_size, Nm.tx_data]
  obtain ⟨s, hs⟩ : ∃ s, s = (⟨#[47]⟩ : ByteArray) ++ X := ⟨_, rfl⟩
  have hsj : s = Nm.jtx l := by rw [hs, hX]; rfl
  have hss : s.size = 1 + X.size := by rw [hsj, Nm.jtx_size, hXs]
  rw [← hX] at cJ
  have hsum : ¬ 9223372036854775807 < 1 + X.size := by omega
  have HS := Lib.hid hs
  have HJ := Lib.hid hsj
  have HT := Lib.hid T
  have SS := Lib.hid S
  clear hX hs hsj T S
  go_enter Tryd.func25, Tryd.ntmps25
  go_wp2_with fail
  refine cJ.mono ?_
  rintro e w1 ⟨rfl, k1⟩
  have cs := split_any s w1 (by omega) (HT.out.step k1)
  clear cJ
  go_wp2_with fail
  rw [← HS.out]
  refine cs.mono ?_
  rintro e w2 ⟨a, ok, aa, rfl, ha, sa, la, k2⟩
  have HA := Lib.hid ha
  have K2 := k1.trans k2 (by simp)
  have S2 := SS.out.keep K2
  clear ha cs k1 k2 hsum hXs hss
  cases ok with
  | false =>
    have hno : Nm.split (Nm.jtx l) ≠ some l := by
      rcases HA.out with ⟨h, _⟩ | ⟨_, h, _⟩
      · cases h
      · rw [← HJ.out, h]; simp
    have HN := Lib.hid hno
    clear hno
    go_wp2
    go_ret2
    exact ⟨_, false, rfl, Or.inr ⟨rfl, HN.out, rfl⟩, K2⟩
  | true =>
    have hsp : Nm.split (Nm.jtx l) = some a := by
      rcases HA.out with ⟨_, h⟩ | ⟨h, _⟩
      · rw [← HJ.out]; exact h
      · cases h
    have cE := fun c d => equalP aa ao a l w2 sa S2 la hl c d
    have HP := Lib.hid hsp
    clear hsp HA
    by_cases hal : a = l
    · have e1 : decide (a = l) = true := by simp [hal]
      rw [e1] at cE
      have HE := Lib.hid hal
      clear hal e1
      go_wp2_with (go_at_call 57; refine (cE _ _).mono ?_; rintro e w3 ⟨rfl, k3⟩)
      go_ret2
      exact ⟨_, true, rfl, Or.inl ⟨rfl, by rw [HP.out, HE.out], HJ.out⟩, K2.trans k3 (by simp)⟩
    · have e1 : decide (a = l) = false := by simp [hal]
      rw [e1] at cE
      have hno : Nm.split (Nm.jtx l) ≠ some l := by rw [HP.out]; exact fun h => hal (Option.some.inj h)
      have HN := Lib.hid hno
      clear hal e1 hno
      go_wp2_with (go_at_call 57; refine (cE _ _).mono ?_; rintro e w3 ⟨rfl, k3⟩)
      go_ret2
      exact ⟨_, false, rfl, Or.inr ⟨rfl, HN.out, rfl⟩, K2.trans k3 (by simp)⟩
end Go.Proofs.YtbmbjedpeepnfaaDoor
