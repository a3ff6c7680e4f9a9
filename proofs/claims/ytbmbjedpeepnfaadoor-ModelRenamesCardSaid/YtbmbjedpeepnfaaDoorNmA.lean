/-
  Package name: plain, Right, Width, Short. No condition but that a text is not too long, and that the library's tables are laid.
-/
import Derived.Test.YtbmbjedpeepnfaaDoorNmPlain
import Derived.Test.YtbmbjedpeepnfaaDoorShelf
import Derived.Laws.IdiomStrings
namespace Go.Proofs.YtbmbjedpeepnfaaDoor
open Go.RowKit

/-- the library's variables as its initialisers lay them -/
structure Tabs (w : World) : Prop where
  u8 : Lib.Utf8Tabs (Tryd.laysValid_ren.g 3) (Tryd.laysValid_ren.g 4) w
  ml : ∃ m, w.cell? ⟨2, 0, none⟩ = some (.int .i64 m)
  lo : 2 < w.heap.size

theorem Tabs.keep {F : List Nat} {w w' : World} (h : Tabs w) (k : Keep F w w') (hF : ∀ x ∈ F, 2 < x) : Tabs w' := by
  have hlo := h.lo
  refine ⟨⟨fun c hc => ?_, fun i hi => ?_⟩, ?_, by have := k.size; omega⟩
  · rw [k.cell (by show 0 < _; omega) (fun hx => absurd (hF _ hx) (by show ¬ 2 < 0; omega))]; exact h.u8.1 c hc
  · obtain ⟨h1, h2⟩ := h.u8.2 i hi
    exact ⟨by rw [k.cell (by show 1 < _; omega) (fun hx => absurd (hF _ hx) (by show ¬ 2 < 1; omega))]; exact h1, by rw [k.cell (by show 1 < _; omega) (fun hx => absurd (hF _ hx) (by show ¬ 2 < 1; omega))]; exact h2⟩
  · obtain ⟨m, hm⟩ := h.ml
    exact ⟨m, by rw [k.cell hlo (fun hx => absurd (hF _ hx) (by show ¬ 2 < 2; omega))]; exact hm⟩

theorem Tabs.step {w w' : World} (h : Tabs w) (k : Keep [] w w') : Tabs w' := h.keep k (fun x hx => by cases hx)

theorem Keep.iterAt {F : List Nat} {a w : World} (h : Keep F a w) {k : Nat} (hk : a.heap.size ≤ k) (s : ByteArray) (pos : Nat) : Keep F a (w.iterAt k s pos) :=
  ⟨h.os, h.tape, h.output, by rw [Lib.iterAt_size]; exact h.size, fun i hi hn => (Lib.iterAt_other w k i s pos (by omega)).trans (h.block i hi hn)⟩

set_option maxRecDepth 100000 in
theorem plain_any (r : Int) (w : World) : Calls Tryd.prog 59 #[.int .i32 r] w fun e w' => e = .returned (.bool (Nm.okR r)) ∧ w = w' := by
  have hb : ∀ b : Bool, b = Nm.okR r → Ending.returned (.bool b) = .returned (.bool (Nm.okR r)) := fun b h => by rw [h]
  go_enter Tryd.func59, Tryd.ntmps59
  go_wp2
  all_goals
    go_ret
    exact ⟨hb _ (by unfold Nm.okR; rw [Bool.eq_iff_iff]; simp; (try omega)), rfl⟩

theorem right_no (s : ByteArray) (h : s.toList = [] ∨ 18 < (s.size : Int) ∨ s.toList = [46] ∨ s.toList = [46, 46] ∨ Lib.validD s.data.toList = false ∨ Nm.allOk s = false) : Nm.right s = false := by
  have hl : s.data.toList.length = s.size := by rw [Array.length_toList]; rfl
  unfold Nm.right
  rw [Lib.toList_data] at h
  rcases h with h | h | h | h | h | h
  · have : s.size = 0 := by rw [← hl, h]; rfl
    simp [this]
  · have : ¬ s.size ≤ 18 := by omega
    simp [this]
  · simp [h]
  · simp [h]
  · simp [h]
  · simp [h]

theorem right_yes (s : ByteArray) (h1 : ¬ s.toList = []) (h2 : ¬ 18 < (s.size : Int)) (h3 : ¬ s.toList = [46]) (h4 : ¬ s.toList = [46, 46]) (h5 : Lib.validD s.data.toList = true) (h6 : Nm.allOk s = true) : Nm.right s = true := by
  have hl : s.data.toList.length = s.size := by rw [Array.length_toList]; rfl
  rw [Lib.toList_data] at h1 h3 h4
  have e1 : 1 ≤ s.size := by
    rcases Nat.eq_zero_or_pos s.size with h | h
    · exact absurd (List.eq_nil_of_length_eq_zero (by rw [hl]; exact h)) h1
    · exact h
  have e2 : s.size ≤ 18 := by omega
  unfold Nm.right
  simp [e1, e2, h3, h4, h5, h6]

theorem ret_bool {a b : Bool} (h : a = b) : Ending.returned (.bool a) = .returned (.bool b) := by rw [h]

set_option maxRecDepth 100000 in
set_option maxHeartbeats 1600000 in
theorem right_any (s : ByteArray) (w : World) (hs : s.size ≤ 9223372036854775807) (T : Tabs w) : Calls Tryd.prog 29 #[.string s] w fun e w' => e = .returned (.bool (Nm.right s)) ∧ Keep [] w w' := by
  have cV := Tryd.utf8_ValidString s w hs T.u8
  have HS := Lib.hid hs
  obtain ⟨V, hV⟩ : ∃ V, V = Lib.validD s.data.toList := ⟨_, rfl⟩
  rw [← hV] at cV
  have HV := Lib.hid hV
  clear hV T
  cases V with
  | false =>
    have HR := Lib.hid (right_no s (Or.inr (Or.inr (Or.inr (Or.inr (Or.inl HV.out.symm))))))
    clear HV
    go_enter Tryd.func29, Tryd.ntmps29
    go_wp2_with (go_at_call 58; refine cV.mono ?_; rintro e w1 ⟨rfl, k1⟩)
    all_goals
      go_ret
      refine ⟨ret_bool HR.out.symm, ?_⟩
      first
        | exact Keep.refl _ _
        | exact Keep.ofBelow k1
  | true =>
    go_enter Tryd.func29, Tryd.ntmps29
    go_wp2_with (go_at_call 58; refine cV.mono ?_; rintro e w1 ⟨rfl, k1⟩)
    all_goals
      first
        | (go_ret
           refine ⟨ret_bool (Eq.symm (right_no s ?_)), Keep.refl _ _⟩
           first
             | exact Or.inl (by assumption)
             | exact Or.inr (Or.inl (by assumption))
             | exact Or.inr (Or.inr (Or.inl (by assumption)))
             | exact Or.inr (Or.inr (Or.inr (Or.inl (by assumption)))))
        | (exfalso; rename_i hx; rcases hx with ((hx | hx) | hx) | hx <;> first | omega | (simp at hx; contradiction))
        | skip
    clear cV
    rename_i n5 _ _
    have K1 := Keep.ofBelow k1
    have hw1 := K1.size
    have N5 := Lib.hid n5
    clear n5 k1
    obtain ⟨k, hk⟩ : ∃ k, k = w1.heap.size := ⟨_, rfl⟩
    rw [← hk]
    have hwk : w.heap.size ≤ k := by omega
    have HK := Lib.hid hk
    clear hk hw1
    go_loopw [] (fun wr => ∃ pos : Nat, wr.heap[k]? = some (.stringIter s pos) ∧ Keep [] w wr ∧ ∀ j, j < pos → j < s.size → Nm.okB (s.get! j) = true) (fun wr => s.size - wr.iterPos k)
    case atStart =>
      refine ⟨0, ?_, ?_, fun j hj => absurd hj (by omega)⟩
      · rw [HK.out]; exact World.iter_heap w1 s 0
      · exact K1.alloc _
    case round =>
      obtain ⟨pos, hit, K, hall⟩ := hrel
      by_cases hp : pos < s.size
      · have hnx : ∀ ty, (Instr.next (.pointer (some ⟨k, 0, none⟩)) true ty).run Tryd.prog wr = _ := fun ty => Lib.run_next_any_at wr k s pos ty hit hp
        have hit2 := Lib.iterAt_heap wr k s pos (pos + (Utf8.decode s pos).2) hit
        have hwd := Nm.decode_pos s pos hp
        have K2 := Keep.iterAt K (k := k) (by omega) s (pos + (Utf8.decode s pos).2)
        cases hb : Nm.okR ((Utf8.decode s pos).1 : Int) with
        | true =>
          have hy := Nm.okR_yes s pos hp hb
          go_wp2_with (go_at_call 59; refine (plain_any _ _).mono ?_; rw [hb]; rintro e w' ⟨rfl, rfl⟩)
          go_roundw
          case rel =>
            refine ⟨pos + (Utf8.decode s pos).2, hit2, K2, fun j h1 h2 => ?_⟩
            by_cases hj : j < pos
            · exact hall j hj h2
            · have := (hy (j - pos) (by omega)).2
              rwa [show pos + (j - pos) = j by omega] at this
          case measure =>
            simp only [World.iterPos, hit2, hit]
            omega
        | false =>
          have hno : Nm.allOk s = false := by
            cases hx : Nm.allOk s with
            | false => rfl
            | true =>
              have h1 := (Nm.allOk_iff s).1 hx pos hp
              rw [Nm.okR_no s pos hp hb] at h1
              exact h1.symm
          have HR := Lib.hid (right_no s (Or.inr (Or.inr (Or.inr (Or.inr (Or.inr hno))))))
          clear hno
          go_wp2_with (go_at_call 59; refine (plain_any _ _).mono ?_; rw [hb]; rintro e w' ⟨rfl, rfl⟩)
          go_ret
          exact ⟨ret_bool HR.out.symm, K2⟩
      · have hnx : ∀ ty, (Instr.next (.pointer (some ⟨k, 0, none⟩)) true ty).run Tryd.prog wr = _ := fun ty => Lib.run_next_end_at wr k s pos ty hit hp
        have HR : Hid (Nm.right s = true) := Lib.hid (by
          obtain ⟨⟨⟨a1, a2⟩, a3⟩, a4⟩ := N5.out
          refine right_yes s (fun h => by rw [h] at a1; simp at a1) (by omega) (fun h => by rw [h] at a3; simp at a3) (fun h => by rw [h] at a4; simp at a4) HV.out.symm ((Nm.allOk_iff s).2 (fun j hj => hall j (by omega) hj)))
        clear hall
        go_wp2
        go_ret
        exact ⟨ret_bool HR.out.symm, K⟩

set_option maxRecDepth 100000 in
set_option maxHeartbeats 800000 in
theorem width_any (s : ByteArray) (w : World) (hs : s.size ≤ 1000000) : Calls Tryd.prog 28 #[.string s] w fun e w' => e = .returned (.int .i64 (Lib.runeCount s)) ∧ Keep [] w w' := by
  have hr := Nm.runes_size s s.size 0 #[]
  rw [show (#[] : Array Value).size + Lib.runeCountFrom s s.size 0 = Lib.runeCount s by simp [Lib.runeCount]] at hr
  have hle := Lib.runeCount_le s
  have hcv := run_runes_of_string (P := Tryd.prog) w 9 75 21 s Tryd.underlying9 Tryd.underlying75 Tryd.underlying21 (by rw [hr]; omega)
  rw [hr] at hcv
  have K : Keep [] w (w.drew.alloc (.cells (Conv.runesFrom s s.size 0 #[] ++ Array.replicate (grownCap w (Lib.runeCount s) 0 21 - Lib.runeCount s) (.int .i32 0)) 21)) := (Keep.refl _ _).drew.alloc _
  generalize w.drew.alloc (.cells (Conv.runesFrom s s.size 0 #[] ++ Array.replicate (grownCap w (Lib.runeCount s) 0 21 - Lib.runeCount s) (.int .i32 0)) 21) = w1 at hcv K
  generalize grownCap w (Lib.runeCount s) 0 21 = c at hcv
  clear hr
  go_enter Tryd.func28, Tryd.ntmps28
  go_wp2
  go_ret
  exact ⟨rfl, K⟩

set_option maxRecDepth 100000 in
set_option maxHeartbeats 1600000 in
theorem short_any (s : ByteArray) (n : Int) (w : World) (hs : s.size ≤ 140737488351232) (hn : n ≤ 9223372036854775807) : Calls Tryd.prog 27 #[.string s, .int .i64 n] w fun e w' => e = .returned (.string (Nm.short s n)) ∧ Keep [] w w' := by
  have HS := Lib.hid hs
  by_cases h1 : n < 1
  · have hx : Nm.short s n = ⟨#[]⟩ := by unfold Nm.short; rw [if_pos h1]
    rw [hx]
    clear hx
    go_enter Tryd.func27, Tryd.ntmps27
    go_wp2
    go_ret
    exact ⟨rfl, Keep.refl _ _⟩
  · obtain ⟨N, rfl⟩ := Int.eq_ofNat_of_zero_le (show 0 ≤ n by omega)
    have hN : 1 ≤ N := by omega
    have hNI : ¬ ((N : Int) < 1) := by omega
    have hw1 : IntKind.i64.wrap ((N : Int) - 1) = (N : Int) - 1 := IntWalk.i64_in _ (by omega)
    clear h1
    obtain ⟨k, hk⟩ : ∃ k, k = w.heap.size := ⟨_, rfl⟩
    have hwk : w.heap.size ≤ k := by omega
    have HK := Lib.hid hk
    go_enter Tryd.func27, Tryd.ntmps27
    go_wp2
    rw [← HK.out]
    clear hk
    go_loopw [5, 6] (fun cut count wr => ∃ (i c : Nat), count = .int .i64 i ∧ cut = .int .i64 c ∧ i ≤ N ∧ (N - 1 < i → c = Nm.posAt s (N - 1)) ∧ i ≤ Lib.runeCount s ∧ wr.heap[k]? = some (.stringIter s (Nm.posAt s i)) ∧ Keep [] w wr) (fun _ _ wr => s.size - wr.iterPos k)
    case atStart =>
      refine ⟨0, 0, rfl, rfl, Nat.zero_le _, fun h => absurd h (by omega), Nat.zero_le _, ?_, (Keep.refl _ _).alloc _⟩
      rw [HK.out]; exact World.iter_heap w s 0
    case round =>
      obtain ⟨i, c, rfl, rfl, hiN, hc, hir, hit, K⟩ := hrel
      have HC := Lib.hid hc
      clear hc
      by_cases hp : Nm.posAt s i < s.size
      · have hnx : ∀ ty, (Instr.next (.pointer (some ⟨k, 0, none⟩)) true ty).run Tryd.prog wr = _ := fun ty => Lib.run_next_any_at wr k s _ ty hit hp
        have hit2 := Lib.iterAt_heap wr k s _ (Nm.posAt s i + (Utf8.decode s (Nm.posAt s i)).2) hit
        have hwd := Nm.decode_pos s _ hp
        have hlt := (Nm.posAt_iff s i (fun j hj => Nm.posAt_low s (by omega))).1 hp
        have K2 := Keep.iterAt K (k := k) (by omega) s (Nm.posAt s i + (Utf8.decode s (Nm.posAt s i)).2)
        have HP := Lib.hid hp
        obtain ⟨p, hpe⟩ : ∃ p, p = Nm.posAt s i := ⟨_, rfl⟩
        have HPE := Lib.hid hpe
        rw [← hpe] at hnx hit hit2 hwd K2
        clear hpe hp
        have hs1 : IntKind.i64.wrap ((i : Int) + 1) = (i : Int) + 1 := IntWalk.i64_in _ (by have := Lib.runeCount_le s; have := HS.out; omega)
        by_cases ha : i = N
        · subst ha
          have HCC := Lib.hid (HC.out (by omega))
          have hcs : c ≤ s.size := by rw [HCC.out]; exact Nm.posAt_le s (by omega)
          have hcsI : (c : Int) ≤ (s.size : Int) := by omega
          have hsz : (s.extract 0 c).size = c := by rw [ByteArray.size_extract]; omega
          have hsum : ¬ 9223372036854775807 < c + 3 := by have := HS.out; omega
          have hx : s.extract 0 c ++ Nm.more = Nm.short s i := by
            unfold Nm.short
            rw [if_neg (by omega), if_neg (by omega), HCC.out]
            rfl
          have HX := Lib.hid hx
          have g1 : ¬ ((i : Int) = (i : Int) - 1) := by omega
          have g2 : (i : Int) < (i : Int) + 1 := by omega
          clear hx HC
          go_wp2
          go_ret
          refine ⟨?_, K2⟩
          rw [← HX.out]
          rfl
        · have g2 : ¬ (N : Int) < (i : Int) + 1 := by omega
          have hnext : Nm.posAt s (i + 1) = p + (Utf8.decode s p).2 := by rw [HPE.out]; rfl
          by_cases hb : i = N - 1
          · have g1 : (i : Int) = (N : Int) - 1 := by omega
            go_wp2
            go_roundw
            case rel => exact ⟨i + 1, p, by go_num, rfl, by omega, fun _ => by rw [HPE.out, hb], by omega, by rw [hnext]; exact hit2, K2⟩
            case measure =>
              simp only [World.iterPos, hit2, hit]
              have := HP.out
              rw [← HPE.out] at this
              omega
          · have g1 : ¬ (i : Int) = (N : Int) - 1 := by omega
            go_wp2
            go_roundw
            case rel => exact ⟨i + 1, c, by go_num, rfl, by omega, fun h => absurd h (by omega), by omega, by rw [hnext]; exact hit2, K2⟩
            case measure =>
              simp only [World.iterPos, hit2, hit]
              have := HP.out
              rw [← HPE.out] at this
              omega
      · have hnx : ∀ ty, (Instr.next (.pointer (some ⟨k, 0, none⟩)) true ty).run Tryd.prog wr = _ := fun ty => Lib.run_next_end_at wr k s _ ty hit hp
        have hx : Nm.short s N = s := by
          unfold Nm.short
          have : ¬ i < Lib.runeCount s := fun h => hp (Nm.posAt_low s h)
          rw [if_neg (by omega), if_pos (by omega)]
        have HX := Lib.hid hx
        clear hx
        go_wp2
        go_ret
        exact ⟨by rw [HX.out]; rfl, K⟩
end Go.Proofs.YtbmbjedpeepnfaaDoor
