/-
  InodeChunks: a chunk is what it was but for noughts at its end, and filled up it has them again: the law returns true, for any text. No condition.
-/
import Derived.Test.YteogkgjajhdhjaaDoorInVar
namespace Go.Proofs.YteogkgjajhdhjaaDoor
open Go.RowKit

/-- where the noughts at a list's end begin -/
theorem trim_at (l : List UInt8) : ∀ k, k ≤ l.length → (∀ (j : Nat) b, k ≤ j → l[j]? = some b → b = 0) →
    ∃ m, m ≤ k ∧ (∀ (j : Nat) b, m ≤ j → l[j]? = some b → b = 0) ∧ (∀ b, 0 < m → l[m - 1]? = some b → b ≠ 0)
  | 0, _, h => ⟨0, Nat.le_refl _, h, fun _ h => absurd h (by omega)⟩
  | k + 1, hk, h => by
    by_cases e : l[k]? = some 0
    · obtain ⟨m, h1, h2, h3⟩ := trim_at l k (by omega) (fun j b hj hb => by
        by_cases e2 : j = k
        · subst e2; rw [e] at hb; exact (Option.some.inj hb).symm
        · exact h j b (by omega) hb)
      exact ⟨m, by omega, h2, h3⟩
    · exact ⟨k + 1, Nat.le_refl _, h, fun b _ hb hz => e (by rw [← hz]; simpa using hb)⟩

theorem chunk_parts (S : ByteArray) (hS : S.size ≤ 32) : ∃ (m : Nat) (t f : ByteArray), t = txt (In.trim S.data.toList) ∧ f = txt (In.full t.data.toList) ∧ t.size = m ∧ f.size = 32 ∧ m ≤ S.size ∧
    S.extract 0 m = t ∧ f.extract 0 m = t ∧ txt (In.trim t.data.toList) = t ∧ txt (In.trim f.data.toList) = t ∧ txt (In.full S.data.toList) = f ∧
    (∀ j : Nat, m ≤ j → j < 32 → f.data.toList[j]? = some 0) ∧ (∀ j : Nat, m ≤ j → j < S.size → S.data.toList[j]? = some 0) ∧ (0 < m → ∃ b, t.data.toList[m - 1]? = some b ∧ b ≠ 0) := by
  have hl : S.data.toList.length = S.size := by rw [Array.length_toList]; rfl
  obtain ⟨l, hle⟩ : ∃ l, l = S.data.toList := ⟨_, rfl⟩
  rw [← hle] at hl
  have hStxt : S = txt l := txt_of hle.symm
  obtain ⟨m, h1, h2, h3⟩ := trim_at l l.length (Nat.le_refl _) (fun j b hj hb => by rw [List.getElem?_eq_none hj] at hb; cases hb)
  have hT : In.trim l = l.take m := by
    unfold In.trim
    rw [List.take_of_length_le (by omega)]
    exact Lib.trimRightB_take l 0 m h1 h2 (fun b h => h3 b h)
  have hlt : (l.take m).length = m := by rw [List.length_take]; omega
  obtain ⟨F, hF⟩ : ∃ F, F = l.take m ++ List.replicate (32 - m) (0 : UInt8) := ⟨_, rfl⟩
  have hFl : F.length = 32 := by rw [hF, List.length_append, hlt, List.length_replicate]; omega
  have hfT : In.full (l.take m) = F := by
    unfold In.full
    rw [List.take_of_length_le (by omega), hlt, hF]
  have hFm : F.take m = l.take m := by rw [hF, List.take_append_of_le_length (by omega), List.take_of_length_le (by omega)]
  have hFz : ∀ j : Nat, m ≤ j → j < 32 → F[j]? = some 0 := fun j a b => by
    rw [hF, List.getElem?_append_right (by omega), hlt, List.getElem?_replicate, if_pos (by omega)]
  have hm1 : ∀ b, 0 < m → (l.take m)[m - 1]? = some b → b ≠ 0 := fun b h hb => by
    rw [List.getElem?_take, if_pos (by omega)] at hb
    exact h3 b h hb
  refine ⟨m, txt (l.take m), txt F, by rw [← hle, hT], by rw [show (txt (l.take m)).data.toList = l.take m by simp [txt], hfT], by simp [txt]; show (l.take m).toArray.size = m; simp; omega, by show F.toArray.size = 32; simpa using hFl, by omega, ?_, ?_, ?_, ?_, ?_, ?_, ?_, ?_⟩
  · apply txt_of; rw [Lib.extract_data, ← hle]; simp
  · apply txt_of; rw [Lib.extract_data, show (txt F).data.toList = F by simp [txt]]; simpa using hFm
  · rw [show (txt (l.take m)).data.toList = l.take m by simp [txt]]
    unfold In.trim
    rw [List.take_of_length_le (by omega), Lib.trimRightB_take (l.take m) 0 m (by omega) (fun j b hj hb => by rw [List.getElem?_eq_none (by omega)] at hb; cases hb) (fun b h hb => hm1 b h hb), List.take_of_length_le (by omega)]
  · rw [show (txt F).data.toList = F by simp [txt]]
    unfold In.trim
    rw [List.take_of_length_le (by omega), Lib.trimRightB_take F 0 m (by omega) (fun j b hj hb => by
      have hj2 : j < 32 := by have := (List.getElem?_eq_some_iff.1 hb).1; omega
      rw [hFz j hj hj2] at hb; exact (Option.some.inj hb).symm) (fun b h hb => by
      rw [hF, List.getElem?_append_left (by omega)] at hb
      exact hm1 b h hb), hFm]
  · rw [← hle]
    unfold In.full
    rw [List.take_of_length_le (by omega)]
    congr 1
    apply List.ext_getElem?
    intro j
    by_cases a : j < m
    · rw [List.getElem?_append_left (by omega), hF, List.getElem?_append_left (by omega), List.getElem?_take, if_pos a]
    · by_cases b : j < 32
      · rw [hFz j (by omega) b]
        by_cases c : j < l.length
        · rw [List.getElem?_append_left c]
          have := h2 j _ (by omega) (List.getElem?_eq_getElem c)
          rw [List.getElem?_eq_getElem c, this]
        · rw [List.getElem?_append_right (by omega), List.getElem?_replicate, if_pos (by omega)]
      · rw [List.getElem?_eq_none (by rw [List.length_append, List.length_replicate]; omega), List.getElem?_eq_none (by omega)]
  · rw [show (txt F).data.toList = F by simp [txt]]; exact hFz
  · rw [← hle]
    intro j a b
    rw [List.getElem?_eq_getElem (by omega), h2 j _ a (List.getElem?_eq_getElem (by omega))]
  · intro h
    rw [show (txt (l.take m)).data.toList = l.take m by simp [txt]]
    exact ⟨_, List.getElem?_eq_getElem (by omega), hm1 _ h (List.getElem?_eq_getElem (by omega))⟩

theorem byte_at {s : ByteArray} {k : Nat} {b : UInt8} (h : s.data.toList[k]? = some b) (hk : k < s.size) : s[k]'hk = b := by
  have : k < s.data.size := hk
  rw [Array.getElem?_toList, Array.getElem?_eq_getElem this] at h
  exact Option.some.inj h

set_option maxRecDepth 100000 in
set_option maxHeartbeats 3200000 in
theorem inodeChunks_walk (s : ByteArray) (w : World) (hs : s.size ≤ 140737488351232) :
    Calls Tryd.prog 3 #[.string s] w fun e w' => e = .returned (.bool true) ∧ Keep [] w w' := by
  have he := ext32 s
  obtain ⟨S, hS⟩ : ∃ S, S = s.extract 0 (min (s.size : Int) 32).toNat := ⟨_, rfl⟩
  have hS32 : S.size ≤ 32 := by
    have h1 : S.data.toList.length = S.size := by rw [Array.length_toList]; rfl
    rw [← h1, hS, he, List.length_take]; omega
  have HS := Lib.hid hS
  clear he hS
  obtain ⟨m, t, f, ht, hf, htm, hfm, hmn, e1, e2, e3, e4, e5, z1, z2, z3⟩ := chunk_parts S hS32
  have c1 : ∀ w, Calls Tryd.prog 9 #[.string S] w fun e w' => e = .returned (.string t) ∧ w = w' := fun w => by rw [ht]; exact trim_any S w (by omega)
  have c2 : ∀ w, Calls Tryd.prog 10 #[.string t] w fun e w' => e = .returned (.string f) ∧ Keep [] w w' := fun w => by rw [hf]; exact full_any t w (by omega)
  have c3 : ∀ w, Calls Tryd.prog 9 #[.string t] w fun e w' => e = .returned (.string t) ∧ w = w' := fun w => by have := trim_any t w (by omega); rwa [e3] at this
  have c4 : ∀ w, Calls Tryd.prog 9 #[.string f] w fun e w' => e = .returned (.string t) ∧ w = w' := fun w => by have := trim_any f w (by omega); rwa [e4] at this
  have c5 : ∀ w, Calls Tryd.prog 10 #[.string S] w fun e w' => e = .returned (.string f) ∧ Keep [] w w' := fun w => by have := full_any S w (by omega); rwa [e5] at this
  clear ht hf e3 e4 e5
  have Z1 := Lib.hid z1
  have Z2 := Lib.hid z2
  have Z3 := Lib.hid z3
  clear z1 z2 z3
  have hmnI : (m : Int) ≤ (S.size : Int) := by omega
  have hm32 : (m : Int) ≤ 32 := by omega
  go_enter Tryd.func3, Tryd.ntmps3
  go_wp2_with fail
  refine (shown_any _).mono ?_
  rintro e w1 ⟨rfl, K1⟩
  go_wp2_with fail
  rw [← HS.out]
  refine (c1 w1).mono ?_
  rintro e w1 ⟨rfl, rfl⟩
  go_wp2_with fail
  refine (c2 _).mono ?_
  rintro e w2 ⟨rfl, k2⟩
  have K2 := K1.trans k2 (by simp)
  clear K1 k2 c1 c2
  go_wp2_with fail
  refine (c3 _).mono ?_
  rintro e w3 ⟨rfl, rfl⟩
  clear c3
  go_wp2_with fail
  refine (c4 _).mono ?_
  rintro e w3 ⟨rfl, rfl⟩
  clear c4
  go_wp2_with fail
  refine (c5 _).mono ?_
  rintro e w3 ⟨rfl, k3⟩
  have K3 := K2.trans k3 (by simp)
  clear c5 K2 k3
  go_wp2
  go_loopw [6] (fun i wr => ∃ k : Nat, i = .int .i64 k ∧ m ≤ k ∧ k ≤ 32 ∧ Keep [] w wr) (fun i _ => 32 - (intOf i).toNat)
  case atStart => exact ⟨m, rfl, Nat.le_refl _, by omega, K3⟩
  case round =>
    clear K3
    obtain ⟨k, rfl, hmk, hk, K⟩ := hrel
    by_cases hk32 : k < 32
    · have hk32I : (k : Int) < 32 := by omega
      have hkf : k < f.size := by omega
      have hf0 := byte_at (Z1.out k hmk hk32) hkf
      by_cases hkn : k < S.size
      · have hs0 := byte_at (Z2.out k hmk hkn) hkn
        go_wp2
        go_roundw
        case rel => exact ⟨k + 1, by go_num, by omega, by omega, K⟩
        case measure => simp [intOf]; omega
      · go_wp2
        go_roundw
        case rel => exact ⟨k + 1, by go_num, by omega, by omega, K⟩
        case measure => simp [intOf]; omega
    · have hk32I : ¬ (k : Int) < 32 := by omega
      by_cases hm0 : 0 < m
      · obtain ⟨b, hb, hb0⟩ := Z3.out hm0
        have hsub : IntKind.i64.wrap ((m : Int) - 1) = ((m - 1 : Nat) : Int) := by rw [IntWalk.i64_in _ (by omega)]; omega
        have hml : m - 1 < t.size := by omega
        have hbt := byte_at hb hml
        have hbI : ¬ b.toNat = 0 := fun h => hb0 (UInt8.toNat.inj h)
        have hbn : ((b.toNat : Int) != 0) = true := by rw [bne_iff_ne]; omega
        clear hb
        go_wp2
        all_goals
          go_ret
          exact ⟨by simp, K⟩
      · have hte : t = ⟨#[]⟩ := by
          have : t.data.size = 0 := by have h : t.data.size = t.size := rfl; omega
          cases t; simp at this; rw [this]
        subst hte
        go_wp2
        go_ret
        exact ⟨rfl, K⟩


theorem inodeChunks_readable : Tryd.f3.params.toList.all (fun t => Tryd.prog.readableRec t && decide (t < Tryd.prog.types.size)) = true := by kernel_rfl

open Go.ChangeShapes Go.WideShapes Go.ChangeAt in
set_option maxRecDepth 100000 in
theorem inodeChunks_contract (H : Type) (enc : TypeId × Value → H) (W : World) (base : Nat) (args : Array Value) (ds gs : List (DataW H)) (before : List MemPlace)
    (hval : ∀ (j : Nat) t v, Tryd.f3.params[j]? = some t → args[j]? = some v → Value.okWide Tryd.prog W .any base t v)
    (hW : DataW.Whole enc Tryd.prog Tryd.f3.params.toList Rows.inodeChunksSpec.vars false W args.toList ds gs before) (_hL : laidMetH Tryd.prog Rows.inodeChunksRow.laid W) (hS : (DataW.weightsEach Tryd.prog (Tryd.f3.params.toList ++ Rows.inodeChunksSpec.plain.varTypes Tryd.prog) (ds ++ gs)).all (· ≤ reachBytes) = true) :
    Calls Tryd.prog 3 args W fun e W' => ∃ v, e = .returned v ∧ Rows.inodeChunksSpec.post enc Tryd.prog Tryd.f3 false true false false W args v W' := by
  have hW' := hW
  obtain ⟨p, q, hA0, hV, rfl, _, _⟩ := hW
  have hA : DataW.TrodAll enc Tryd.prog W 0 (fun _ => true) true Tryd.f3.params.toList args.toList ds p := hA0
  rw [Tryd.params3] at hA hval
  obtain ⟨v0, d0, rfl, rfl, h0⟩ := trodAll_one hA
  obtain ⟨rfl, rfl⟩ := trodVars_none hV
  obtain ⟨s, rfl, rfl, rfl, _⟩ := Go.ChangeMaps.open_string Tryd.underlying9 (hval 0 9 v0 rfl rfl) h0
  have hsl := sized_string hS (j := 0) (t := 9) (bytes := s.data.toList) rfl rfl
  have hsz : s.size ≤ 140737488351232 := by
    have h1 : s.data.toList.length = s.size := by rw [Array.length_toList]; rfl
    unfold reachBytes at hsl
    omega
  refine (inodeChunks_walk s W hsz).mono fun e W' ⟨he, hk⟩ => ?_
  have _u := hS
  subst he
  exact ⟨_, rfl, law_post Tryd.laidOut inodeChunks_readable rfl Tryd.underlying4 rfl hW' rfl hk.below0⟩

set_option maxRecDepth 100000 in
theorem inodeChunks_lifted (os : Os) (started : os.Started) (H : Type) (enc : TypeId × Value → H) :
    ReturnsInHanded {} Tryd.checked os 3 .any (fun w args => (Rows.inodeChunksSpec.pre enc Tryd.prog Tryd.f3 Rows.inodeChunksRow.domain false w args ∧ laidMetH Tryd.prog Rows.inodeChunksRow.laid w) ∧ sizedMet enc Tryd.prog Tryd.f3 (OpenSpec.ofChange Rows.inodeChunksSpec) false w args)
      (Rows.inodeChunksSpec.post enc Tryd.prog Tryd.f3 false true false false) := by
  refine returnsInHanded_of_change_and (C := Tryd.checked) (X := fun w _ => laidMetH Tryd.prog Rows.inodeChunksRow.laid w) (fun _ _ _ hh h => h.of_heap hh) Tryd.own started (by kernel_rfl) Tryd.func3
    (ChangeSpec.witness_shaped (enc := enc) (C := Tryd.checked) (os := os) (X := fun w _ => laidMetH Tryd.prog Rows.inodeChunksRow.laid w) false (World.laidAll Tryd.prog os Rows.inodeChunksRow.laid) #[.string ⟨#[]⟩] 8 (World.laidAll_os _ _ _)
      (World.shaped_of_ZipB (by kernel_rfl) (by kernel_rfl)) (by kernel_rfl) (by kernel_rfl) (by kernel_rfl)
      (by rw [MakeChecks.laidMetH_plain _ _ _ (by kernel_rfl)]; exact laidMet_laidAll _ (by kernel_rfl) (by kernel_rfl))) ?_
  intro W base args ds gs before hval hW _ hS hL _
  exact inodeChunks_contract H enc W base args ds gs before hval hW hL hS

theorem inodeChunks_row_holds : Rows.InodeChunksSaid :=
  OpenClaim.holds_of_wide 3 Tryd.f3 rfl rfl rfl rfl rfl rfl rfl ⟨rfl, rfl, rfl, rfl, rfl⟩ rfl rfl rfl rfl rfl (by kernel_rfl) Tryd.func3 (by kernel_rfl)
    (of_decide_eq_true (by kernel_rfl)) (by unfold Func.isWrapper; first | (rw [if_pos (by decide +kernel)]; kernel_rfl) | (rw [if_neg (by decide +kernel)]; exact ⟨rfl, rfl⟩))
    (fun os started H enc _ => inodeChunks_lifted os started H enc)

theorem inodeChunks_holds : Rows.InodeChunksCardSaid :=
  Claim7.holds_tied_plain_at .later [] [.data, .pinned] true (true, "879644d4b576a1fb53cab3707f05e46681989cab49cb3ebe5b14112d0615c62a") false inodeChunks_row_holds (fun _ h => by cases h) (by kernel_rfl) (fun _ h => by cases h) inodeChunks_row_tie rfl ⟨rfl, rfl⟩ (by kernel_rfl) rfl
    (fun f fn hf hfn => by
      obtain rfl : f = 3 := Option.some.inj ((show Tryd.prog.funcNamed "wainscot/wainscotlaw11.InodeChunks" = some 3 by kernel_rfl).symm.trans hf) |>.symm
      obtain rfl : fn = Tryd.f3 := (Option.some.inj (Tryd.func3.symm.trans hfn)).symm
      exact ⟨by kernel_rfl, fun j t ht => by
        have hm : t ∈ Tryd.f3.params.toList := by simpa using Array.mem_of_getElem? ht
        have hall : (Tryd.f3.params.toList.all fun u => !Tryd.prog.wantsStandIn u) = true := by kernel_rfl
        exact (show Tryd.prog.wantsStandIn t = false by simpa using List.all_eq_true.1 hall t hm)⟩)
    (by kernel_rfl)

#print axioms inodeChunks_holds
end Go.Proofs.YteogkgjajhdhjaaDoor
