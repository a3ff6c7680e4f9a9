/-
  PackBack: what is written is read, one behind the other: the law returns true, for any fields. No condition.
-/
import Derived.Test.YteogkgjajhdhjaaPackCuts
import Derived.Test.YteogkgjajhdhjaaFlds
import Derived.Test.YteogkgjajhdhjaaArith
import Derived.Deep.RegionWith
import Derived.Deep.DeepCutAuto
import Derived.Deep.CutBlock
namespace Go.Proofs.Yteogkgjajhdhjaa
open Go.RowKit

/-- a text cut to 255 bytes -/
def cut255 (s : ByteArray) : ByteArray := if 255 < s.size then s.extract 0 255 else s.extract 0 s.size
theorem cut255_size (s : ByteArray) : (cut255 s).size ≤ 255 := by unfold cut255; split <;> simp [ByteArray.size_extract] <;> omega
theorem data_len (s : ByteArray) : s.data.toList.length = s.size := by rw [Array.length_toList]; rfl

/-- a field's bytes -/
def Fld.enc (f : Fld) : List UInt8 :=
  if f.kind % 4 = 0 then Pk.be (f.n % 256).toNat 1 else if f.kind % 4 = 1 then Pk.be (f.n % 4294967296).toNat 4 else if f.kind % 4 = 2 then Pk.be f.v.toNat 8
  else UInt8.ofNat (cut255 f.s).data.toList.length :: (cut255 f.s).data.toList
def encs (l : List Fld) : List UInt8 := l.flatMap Fld.enc

theorem enc_le (f : Fld) : f.enc.length ≤ 256 := by
  have h := cut255_size f.s
  have h2 := data_len (cut255 f.s)
  unfold Fld.enc
  split
  · rw [Pk.be_length]; omega
  · split
    · rw [Pk.be_length]; omega
    · split
      · rw [Pk.be_length]; omega
      · simp only [List.length_cons]; omega

theorem encs_le (l : List Fld) : (encs l).length ≤ 256 * l.length := by
  induction l with
  | nil => simp [encs]
  | cons f l ih =>
    have := enc_le f
    simp only [encs, List.flatMap_cons, List.length_append, List.length_cons] at ih ⊢
    omega

theorem encs_snoc (fs : List Fld) (k : Nat) (f : Fld) (h : fs[k]? = some f) : encs (fs.take (k + 1)) = encs (fs.take k) ++ f.enc := by
  rw [List.take_add_one, h]
  simp [encs]

theorem encs_drop (fs : List Fld) (n j : Nat) (f : Fld) (h : fs[j]? = some f) (hj : j < n) : encs ((fs.take n).drop j) = f.enc ++ encs ((fs.take n).drop (j + 1)) := by
  have h1 : (fs.take n)[j]? = some f := by rw [List.getElem?_take, if_pos hj]; exact h
  have h2 : j < (fs.take n).length := (List.getElem?_eq_some_iff.1 h1).1
  rw [List.drop_eq_getElem_cons h2]
  rw [List.getElem?_eq_getElem h2] at h1
  rw [Option.some.inj h1]
  simp [encs]

theorem put_ok (b l : List UInt8) (m : Nat) (may : Bool) (hm : may = true) (h : b.length + l.length ≤ m) : (⟨b, m, false⟩ : Pk.Wr).put l may = ⟨b ++ l, m, false⟩ := by
  subst hm
  simp [Pk.Wr.put, Pk.Wr.room]
  omega

/-- what the writer's four calls do with a field -/
theorem enc_put (b : List UInt8) (f : Fld) (h : b.length + 256 ≤ 20000) :
    (f.kind % 4 = 0 → (⟨b, 20000, false⟩ : Pk.Wr).byte (f.n % 256) = ⟨b ++ f.enc, 20000, false⟩) ∧ (f.kind % 4 = 1 → (⟨b, 20000, false⟩ : Pk.Wr).word (f.n % 4294967296) = ⟨b ++ f.enc, 20000, false⟩) ∧
    (f.kind % 4 = 2 → (⟨b, 20000, false⟩ : Pk.Wr).long f.v = ⟨b ++ f.enc, 20000, false⟩) ∧ (f.kind % 4 = 3 → (⟨b, 20000, false⟩ : Pk.Wr).text (cut255 f.s).data.toList = ⟨b ++ f.enc, 20000, false⟩) := by
  have hl := enc_le f
  refine ⟨fun hk => ?_, fun hk => ?_, fun hk => ?_, fun hk => ?_⟩
  · have e : f.enc = Pk.be (f.n % 256).toNat 1 := by unfold Fld.enc; rw [if_pos hk]
    rw [e] at hl ⊢
    exact put_ok _ _ _ _ (decide_eq_true (by omega)) (by omega)
  · have e : f.enc = Pk.be (f.n % 4294967296).toNat 4 := by unfold Fld.enc; rw [if_neg (by omega), if_pos hk]
    rw [e] at hl ⊢
    exact put_ok _ _ _ _ (decide_eq_true (by omega)) (by omega)
  · have e : f.enc = Pk.be f.v.toNat 8 := by unfold Fld.enc; rw [if_neg (by omega), if_neg (by omega), if_pos hk]
    rw [e] at hl ⊢
    exact put_ok _ _ _ _ rfl (by omega)
  · have e : f.enc = UInt8.ofNat (cut255 f.s).data.toList.length :: (cut255 f.s).data.toList := by unfold Fld.enc; rw [if_neg (by omega), if_neg (by omega), if_neg (by omega)]
    have h1 := cut255_size f.s
    have h2 := data_len (cut255 f.s)
    rw [e] at hl ⊢
    exact put_ok _ _ _ _ (decide_eq_true (by omega)) (by omega)

/-- what the reader's four calls tell of a field -/
theorem enc_read (r : List UInt8) (f : Fld) (hv0 : 0 ≤ f.v) (hv : f.v ≤ 18446744073709551615) :
    (f.kind % 4 = 0 → (Pk.rd ((⟨f.enc ++ r, false⟩ : Pk.Rd).take 1) : Int) = f.n % 256 ∧ (⟨f.enc ++ r, false⟩ : Pk.Rd).skip 1 = ⟨r, false⟩) ∧
    (f.kind % 4 = 1 → (Pk.rd ((⟨f.enc ++ r, false⟩ : Pk.Rd).take 4) : Int) = f.n % 4294967296 ∧ (⟨f.enc ++ r, false⟩ : Pk.Rd).skip 4 = ⟨r, false⟩) ∧
    (f.kind % 4 = 2 → (Pk.rd ((⟨f.enc ++ r, false⟩ : Pk.Rd).take 8) : Int) = f.v ∧ (⟨f.enc ++ r, false⟩ : Pk.Rd).skip 8 = ⟨r, false⟩) ∧
    (f.kind % 4 = 3 → txt (rtext ⟨f.enc ++ r, false⟩) = cut255 f.s ∧ rtextSkip ⟨f.enc ++ r, false⟩ = ⟨r, false⟩) := by
  refine ⟨fun hk => ?_, fun hk => ?_, fun hk => ?_, fun hk => ?_⟩
  · have e : f.enc = Pk.be (f.n % 256).toNat 1 := by unfold Fld.enc; rw [if_pos hk]
    rw [e]
    obtain ⟨h1, h2⟩ := rd_good (Pk.be (f.n % 256).toNat 1) r 1 (by rw [Pk.be_length]; rfl)
    refine ⟨?_, h2⟩
    rw [h1, Pk.rd_be]
    omega
  · have e : f.enc = Pk.be (f.n % 4294967296).toNat 4 := by unfold Fld.enc; rw [if_neg (by omega), if_pos hk]
    rw [e]
    obtain ⟨h1, h2⟩ := rd_good (Pk.be (f.n % 4294967296).toNat 4) r 4 (by rw [Pk.be_length]; rfl)
    refine ⟨?_, h2⟩
    rw [h1, Pk.rd_be]
    omega
  · have e : f.enc = Pk.be f.v.toNat 8 := by unfold Fld.enc; rw [if_neg (by omega), if_neg (by omega), if_pos hk]
    rw [e]
    obtain ⟨h1, h2⟩ := rd_good (Pk.be f.v.toNat 8) r 8 (by rw [Pk.be_length]; rfl)
    refine ⟨?_, h2⟩
    rw [h1, Pk.rd_be]
    omega
  · have e : f.enc = UInt8.ofNat (cut255 f.s).data.toList.length :: (cut255 f.s).data.toList := by unfold Fld.enc; rw [if_neg (by omega), if_neg (by omega), if_neg (by omega)]
    have h1 := cut255_size f.s
    have h2 := data_len (cut255 f.s)
    rw [e]
    obtain ⟨h3, h4⟩ := whole_text (cut255 f.s).data.toList (by omega) r
    rw [List.cons_append, h3, txt_data]
    exact ⟨rfl, h4⟩

set_option maxRecDepth 100000 in
set_option maxHeartbeats 4000000 in
theorem packBack_walk (vl : Value) (fs : List Fld) (w : World) (hl : RdV w vl fs.length 4 (fcells fs)) (_hfl : fs.length ≤ 9223372036854775807) (hok : ∀ f ∈ fs, f.Ok) :
    Calls Try.prog 7 #[vl] w fun e w' => e = .returned (.bool true) ∧ Keep [] w w' := by
  obtain ⟨hll, al, cl, rfl, hcl, hnnl, hxl⟩ := hl
  have HXL := Lib.hid hxl
  have HNL := Lib.hid hnnl
  have HOK := Lib.hid hok
  clear hll hxl hnnl hok
  go_enter Try.func7, Try.ntmps7
  go_wp2_with fail
  refine (shown_any w).mono ?_
  rintro e w1 ⟨rfl, k1⟩
  go_wp2_with fail
  refine (new_any 20000 w1 (by omega)).mono ?_
  rintro e w2 ⟨rfl, h2, k2, _⟩
  obtain ⟨bw, hbw⟩ : ∃ bw, bw = w1.heap.size := ⟨_, rfl⟩
  have L2 : LW w.heap.size w2 bw (.slice none 0 0) ⟨[], 20000, false⟩ := by rw [hbw]; simpa using LW.new k1 h2
  rw [← hbw]
  have K2 : Keep [] w w2 := k1.trans k2 (by simp)
  clear hbw h2 k1 k2
  go_upto_block 0 with fail
  go_cut [5] (fun s5 wx => ∃ v : Value, Keep [] w wx ∧ LW w.heap.size wx bw v ⟨encs (fs.take (min fs.length 60)), 20000, false⟩)
  case first =>
    go_wp2_with fail
    go_loopw [5] (fun i wr => ∃ (k : Nat) (v : Value), k ≤ fs.length ∧ k ≤ 60 ∧ i = .int .i64 k ∧ Keep [] w wr ∧ LW w.heap.size wr bw v ⟨encs (fs.take k), 20000, false⟩) (fun i _ => 60 - (intOf i).toNat)
    case atStart => exact ⟨0, _, Nat.zero_le _, Nat.zero_le _, rfl, K2, by simpa [encs] using L2⟩
    case round =>
      clear K2 L2
      obtain ⟨k, v, hk, hk60, rfl, K, L⟩ := hrel
      have hbl : (encs (fs.take k)).length ≤ 256 * k := Nat.le_trans (encs_le _) (by simp; omega)
      have key : ∀ c, c = k → (¬ k < fs.length ∨ ¬ k < 60) → encs (fs.take k) = encs (fs.take (min fs.length 60)) := fun _ _ h => by
        by_cases h1 : fs.length ≤ k
        · rw [List.take_of_length_le h1, List.take_of_length_le (by omega)]
        · rw [show k = 60 by omega, Nat.min_eq_right (by omega)]
      have KEY := Lib.hid key
      clear key
      by_cases hlt : k < fs.length
      · by_cases h60 : k < 60
        · obtain ⟨a, rfl⟩ : ∃ a, al = some a := by
            cases al with
            | none => have := (HNL.out rfl).1; omega
            | some a => exact ⟨a, rfl⟩
          obtain ⟨f, hf⟩ : ∃ f, fs[k]? = some f := ⟨_, List.getElem?_eq_getElem hlt⟩
          have hokf := HOK.out f (List.mem_of_getElem? hf)
          obtain ⟨lt0, FC⟩ := field_cells HXL.out rfl hf
          obtain ⟨_, _, _, d3⟩ := FC wr K
          have HFC := Lib.hid FC
          have hs1 := hokf.s1
          have hv0 := hokf.v0
          have HE := Lib.hid (enc_put (encs (fs.take k)) f (by omega))
          have HS := Lib.hid (encs_snoc fs k f hf)
          obtain ⟨q, hq, hq1, hq2⟩ := mask2 f.kind
          obtain ⟨n8, hn8, hn81, hn82⟩ := mask8 f.n
          obtain ⟨nw, hnw, hnw1, hnw2⟩ := mask32 f.n
          have HQ := Lib.hid hq2
          have H8 := Lib.hid hn82
          have HW := Lib.hid hnw2
          obtain ⟨s', hs', hl'⟩ : ∃ s', cut255 f.s = s' ∧ s'.size ≤ 255 := ⟨_, rfl, cut255_size _⟩
          have HC := Lib.hid hs'
          clear hq2 hn82 hnw2 FC hokf hf KEY
          go_upto_region 8 with fail
          go_cut [6] (fun s6 wx => s6 = .string s' ∧ Keep [] w wx ∧ LW w.heap.size wx bw v ⟨encs (fs.take k), 20000, false⟩)
          case first =>
            unfold cut255 at hs'
            by_cases hmin : 255 < f.s.size
            all_goals
              simp only [hmin, if_true, if_false] at hs'
              go_quiet (fail)
              go_wp2
              go_meet
              case rel => exact ⟨rfl, K.drewN nq, L.keep ((Keep.refl [] _).drewN nq) (by simp)⟩
          case rest =>
            clear K L d3 hs' hs1
            obtain ⟨rfl, K, L⟩ := hcut
            obtain ⟨d0, d1, d2, _⟩ := HFC.out wc K
            have hqc : q = 0 ∨ q = 1 ∨ q = 2 ∨ q = 3 := by omega
            rcases hqc with rfl | rfl | rfl | rfl
            all_goals
              go_wp2_with (first
                | (go_at_call 39; refine (byte_any bw v _ n8 _ (by omega) (by omega) L.isw).mono ?_; rintro e w4 ⟨rfl, o4⟩; obtain ⟨v4, L4, K4, _, _⟩ := LW.step (w0 := w) L K o4; rw [H8.out, HE.out.1 (by have := HQ.out; omega), ← HS.out] at L4)
                | (go_at_call 40; refine (word_any bw v _ nw _ (by omega) (by omega) L.isw).mono ?_; rintro e w4 ⟨rfl, o4⟩; obtain ⟨v4, L4, K4, _, _⟩ := LW.step (w0 := w) L K o4; rw [HW.out, HE.out.2.1 (by have := HQ.out; omega), ← HS.out] at L4)
                | (go_at_call 41; refine (long_any bw v _ f.v _ hv0 L.isw).mono ?_; rintro e w4 ⟨rfl, o4⟩; obtain ⟨v4, L4, K4, _, _⟩ := LW.step (w0 := w) L K o4; rw [HE.out.2.2.1 (by have := HQ.out; omega), ← HS.out] at L4)
                | (go_at_call 19; refine (text_any bw v _ s' _ (by omega) L.isw).mono ?_; rintro e w4 ⟨rfl, o4⟩; obtain ⟨v4, L4, K4, _, _⟩ := LW.step (w0 := w) L K o4; rw [← HC.out, HE.out.2.2.2 (by have := HQ.out; omega), ← HS.out] at L4))
              exact ⟨⟨k + 1, v4, by omega, by omega, by go_num, K4, L4⟩, by simp [intOf]; omega⟩
        · rw [KEY.out k rfl (Or.inr h60)] at L
          go_wp2
          go_meet
          case rel => exact ⟨v, K, L⟩
      · rw [KEY.out k rfl (Or.inl hlt)] at L
        go_wp2
        go_meet
        case rel => exact ⟨v, K, L⟩
  case rest =>
    clear K2 L2
    obtain ⟨v, K, L⟩ := hcut
    obtain ⟨B, hB, hBl⟩ : ∃ B, B = encs (fs.take (min fs.length 60)) ∧ B.length ≤ 15360 := ⟨_, rfl, Nat.le_trans (encs_le _) (by rw [List.length_take]; omega)⟩
    have HB := Lib.hid hB
    rw [← hB] at L
    clear hB
    go_wp2_with fail
    refine (done_ok bw v _ _ wc L.isw).mono ?_
    rintro e w3 ⟨ao, c, rfl, o3, k3, _⟩
    have K3 : Keep [] w w3 := K.trans k3 (by simp)
    have rd3 : RdV w3 (.slice ao B.length c) B.length 1 (bv B) := RdV.ofOwn o3
    clear K L k3 o3
    obtain ⟨n, hn⟩ : ∃ n, n = B.length := ⟨_, rfl⟩
    have HN := Lib.hid hn
    rw [← hn] at rd3 hBl ⊢
    clear hn
    go_wp2_with fail
    refine (read_any _ B w3 (by rw [← HN.out]; exact rd3) (by have := HN.out; omega)).mono ?_
    rintro e w4 ⟨br, u4, rfl, h4, k4, b4, q4⟩
    have K4 : Keep [] w w4 := K3.trans k4 (by simp)
    have R4 := LR.new K3 h4 b4 q4
    clear h4 k4 b4 q4 K3 rd3
    go_wp2_with fail
    go_loopw [10] (fun i wr => ∃ (j : Nat) (u : Value), j ≤ min fs.length 60 ∧ i = .int .i64 j ∧ Keep [] w wr ∧ LR w.heap.size wr br u ⟨encs ((fs.take (min fs.length 60)).drop j), false⟩) (fun i _ => 60 - (intOf i).toNat)
    case atStart => exact ⟨0, _, Nat.zero_le _, rfl, K4, by simpa [← HB.out] using R4⟩
    case round =>
      clear K4 R4
      obtain ⟨k, u, hk, rfl, K, R⟩ := hrel
      have hend : ¬ k < min fs.length 60 → encs ((fs.take (min fs.length 60)).drop k) = [] := fun h => by
        rw [List.drop_of_length_le (by rw [List.length_take]; omega)]
        rfl
      by_cases hlt : k < fs.length
      · by_cases h60 : k < 60
        · obtain ⟨a, rfl⟩ : ∃ a, al = some a := by
            cases al with
            | none => have := (HNL.out rfl).1; omega
            | some a => exact ⟨a, rfl⟩
          obtain ⟨f, hf⟩ : ∃ f, fs[k]? = some f := ⟨_, List.getElem?_eq_getElem hlt⟩
          have hokf := HOK.out f (List.mem_of_getElem? hf)
          obtain ⟨lt0, FC⟩ := field_cells HXL.out rfl hf
          obtain ⟨_, _, _, d3⟩ := FC wr K
          have HFC := Lib.hid FC
          have hs1 := hokf.s1
          have hv0 := hokf.v0
          rw [encs_drop fs (min fs.length 60) k f hf (by omega)] at R
          obtain ⟨r, hr⟩ : ∃ r, r = encs ((fs.take (min fs.length 60)).drop (k + 1)) := ⟨_, rfl⟩
          rw [← hr] at R
          have HR := Lib.hid hr
          have HE := Lib.hid (enc_read r f hokf.v0 hokf.v1)
          obtain ⟨q, hq, hq1, hq2⟩ := mask2 f.kind
          obtain ⟨n8, hn8, hn81, hn82⟩ := mask8 f.n
          obtain ⟨nw, hnw, hnw1, hnw2⟩ := mask32 f.n
          have HQ := Lib.hid hq2
          have H8 := Lib.hid hn82
          have HW := Lib.hid hnw2
          obtain ⟨s', hs', hl'⟩ : ∃ s', cut255 f.s = s' ∧ s'.size ≤ 255 := ⟨_, rfl, cut255_size _⟩
          have HC := Lib.hid hs'
          clear hq2 hn82 hnw2 FC hokf hf hend hr
          go_upto_region 24 with fail
          go_cut [11] (fun s6 wx => s6 = .string s' ∧ Keep [] w wx ∧ LR w.heap.size wx br u ⟨f.enc ++ r, false⟩)
          case first =>
            unfold cut255 at hs'
            by_cases hmin : 255 < f.s.size
            all_goals
              simp only [hmin, if_true, if_false] at hs'
              go_quiet (fail)
              go_wp2
              go_meet
              case rel => exact ⟨rfl, K.drewN nq, R.keep ((Keep.refl [] _).drewN nq) (by simp)⟩
          case rest =>
            clear K R d3 hs' hs1
            obtain ⟨rfl, K, R⟩ := hcut
            obtain ⟨d0, d1, d2, _⟩ := HFC.out wc K
            have hqc : q = 0 ∨ q = 1 ∨ q = 2 ∨ q = 3 := by omega
            have Rd := R.keep (Keep.refl [] _).drew (by simp)
            have Kd := K.drew
            have nl : (a.add (k * 4)).block ∉ [br] := fun h => by
              rw [List.mem_singleton] at h
              have h1 := R.hb
              omega
            have lt1 : (a.add (k * 4)).block < wc.heap.size := Nat.lt_of_lt_of_le lt0 K.size
            have hr2 := HR.out
            have HRO := Lib.hid hr2
            clear hr2 lt0
            rcases hqc with rfl | rfl | rfl | rfl
            · go_wp2_with fail
              go_region_with (first | (go_at_call 28; refine (rbyte_any br u _ _ Rd.isr).mono ?_; rintro e w5 ⟨rfl, o5⟩; obtain ⟨u5, R5, K5, k5, _⟩ := LR.step (w0 := w) Rd Kd o5; have c5 : w5.cell? { block := (a.add (k * 4)).block, off := (a.add (k * 4)).off + 1 } = some (.int .i64 f.n) := (k5.cell (p := { block := (a.add (k * 4)).block, off := (a.add (k * 4)).off + 1 }) lt1 nl).trans d1; rw [(HE.out.1 (by have := HQ.out; omega)).1, ← H8.out]; rw [(HE.out.1 (by have := HQ.out; omega)).2] at R5))
              all_goals
                go_simp
                go_wp2
                rw [HRO.out] at R5
                exact ⟨⟨k + 1, u5, by omega, by go_num, K5, R5⟩, by simp [intOf]; omega⟩
            · go_wp2_with fail
              go_region_with (first | (go_at_call 30; refine (rword_any br u _ _ Rd.isr).mono ?_; rintro e w5 ⟨rfl, o5⟩; obtain ⟨u5, R5, K5, k5, _⟩ := LR.step (w0 := w) Rd Kd o5; have c5 : w5.cell? { block := (a.add (k * 4)).block, off := (a.add (k * 4)).off + 1 } = some (.int .i64 f.n) := (k5.cell (p := { block := (a.add (k * 4)).block, off := (a.add (k * 4)).off + 1 }) lt1 nl).trans d1; rw [(HE.out.2.1 (by have := HQ.out; omega)).1, ← HW.out]; rw [(HE.out.2.1 (by have := HQ.out; omega)).2] at R5))
              all_goals
                go_simp
                go_wp2
                rw [HRO.out] at R5
                exact ⟨⟨k + 1, u5, by omega, by go_num, K5, R5⟩, by simp [intOf]; omega⟩
            · go_wp2_with fail
              go_region_with (first | (go_at_call 32; refine (rlong_any br u _ _ Rd.isr).mono ?_; rintro e w5 ⟨rfl, o5⟩; obtain ⟨u5, R5, K5, k5, _⟩ := LR.step (w0 := w) Rd Kd o5; have c5 : w5.cell? { block := (a.add (k * 4)).block, off := (a.add (k * 4)).off + 2 } = some (.int .u64 f.v) := (k5.cell (p := { block := (a.add (k * 4)).block, off := (a.add (k * 4)).off + 2 }) lt1 nl).trans d2; rw [(HE.out.2.2.1 (by have := HQ.out; omega)).1]; rw [(HE.out.2.2.1 (by have := HQ.out; omega)).2] at R5))
              all_goals
                go_simp
                go_wp2
                rw [HRO.out] at R5
                exact ⟨⟨k + 1, u5, by omega, by go_num, K5, R5⟩, by simp [intOf]; omega⟩
            · go_wp2_with fail
              refine (rtext_any br u _ wc R.isr).mono ?_
              rintro e w5 ⟨rfl, o5⟩
              obtain ⟨u5, R5, K5, k5, _⟩ := LR.step (w0 := w) R K o5
              obtain ⟨t1, t2⟩ := HE.out.2.2.2 (by have := HQ.out; omega)
              rw [t1, HC.out]
              rw [t2, HRO.out] at R5
              clear t1 t2
              go_wp2
              exact ⟨⟨k + 1, u5, by omega, by go_num, K5, R5⟩, by simp [intOf]; omega⟩
        · rw [hend (by omega)] at R
          go_wp2_with (first | (go_at_call 24; refine (wrong_any br _ _ _ R.isr).mono ?_; rintro e w' ⟨rfl, rfl⟩) | (go_at_call 25; refine (left_any br _ _ _ R.isr).mono ?_; rintro e w' ⟨rfl, rfl⟩) | (go_at_call 37; refine (noughts_any br _ _ _ R.isr).mono ?_; rintro e w' ⟨rfl, rfl⟩))
          go_ret
          exact ⟨by simp [Pk.Rd.noughts], K⟩
      · rw [hend (by omega)] at R
        go_wp2_with (first | (go_at_call 24; refine (wrong_any br _ _ _ R.isr).mono ?_; rintro e w' ⟨rfl, rfl⟩) | (go_at_call 25; refine (left_any br _ _ _ R.isr).mono ?_; rintro e w' ⟨rfl, rfl⟩) | (go_at_call 37; refine (noughts_any br _ _ _ R.isr).mono ?_; rintro e w' ⟨rfl, rfl⟩))
        go_ret
        exact ⟨by simp [Pk.Rd.noughts], K⟩


theorem packBack_readable : Try.f7.params.toList.all (fun t => Try.prog.readableRec t && decide (t < Try.prog.types.size)) = true := by kernel_rfl

open Go.ChangeShapes Go.WideShapes Go.ChangeAt in
set_option maxRecDepth 100000 in
theorem packBack_contract (H : Type) (enc : TypeId × Value → H) (W : World) (base : Nat) (args : Array Value) (ds gs : List (DataW H)) (before : List MemPlace)
    (hval : ∀ (j : Nat) t v, Try.f7.params[j]? = some t → args[j]? = some v → Value.okWide Try.prog W .any base t v)
    (hW : DataW.Whole enc Try.prog Try.f7.params.toList Rows.packBackSpec.vars false W args.toList ds gs before) :
    Calls Try.prog 7 args W fun e W' => ∃ v, e = .returned v ∧ Rows.packBackSpec.post enc Try.prog Try.f7 false true false false W args v W' := by
  have hW' := hW
  obtain ⟨p, q, hA0, hV, rfl, _, _⟩ := hW
  have hA : DataW.TrodAll enc Try.prog W 0 (fun _ => true) true Try.f7.params.toList args.toList ds p := hA0
  rw [Try.params7] at hA hval
  obtain ⟨v0, d0, rfl, rfl, h0⟩ := trodAll_one hA
  obtain ⟨rfl, rfl⟩ := trodVars_none hV
  obtain ⟨fs, hf, hfl, hok⟩ := open_fields Try.underlying41 Try.underlying46 (by kernel_rfl) rfl rfl rfl rfl (by kernel_rfl) (by kernel_rfl) (by kernel_rfl) (by kernel_rfl) Try.underlying3 Try.underlying3 Try.underlying37 Try.underlying9 (hval 0 41 v0 rfl rfl) h0
  refine (packBack_walk v0 fs W hf hfl hok).mono fun e W' ⟨he, hk⟩ => ?_
  subst he
  exact ⟨_, rfl, law_post Try.laidOut packBack_readable rfl Try.underlying4 rfl hW' rfl hk.below0⟩

set_option maxRecDepth 100000 in
theorem packBack_lifted (os : Os) (started : os.Started) (H : Type) (enc : TypeId × Value → H) :
    ReturnsInHanded {} Try.checked os 7 .any (Rows.packBackSpec.pre6 enc Try.prog Try.f7 Rows.packBackRow.domain false) (Rows.packBackSpec.post enc Try.prog Try.f7 false true false false) := by
  refine returnsInHanded_of_change_sized (C := Try.checked) Try.own started (by kernel_rfl) Try.func7
    (ChangeSpec.witness6 (enc := enc) (C := Try.checked) false ⟨#[], #[.slice none 0 0], []⟩ 8 (by kernel_rfl) (by kernel_rfl) (by kernel_rfl) (by kernel_rfl)) ?_
  intro W base args ds gs before hval hW _ _ _
  exact packBack_contract H enc W base args ds gs before hval hW

theorem packBack_holds : Rows.PackBackSaid :=
  OpenClaim.holds_of_wide 7 Try.f7 rfl rfl rfl rfl rfl rfl rfl ⟨rfl, rfl, rfl, rfl, rfl⟩ rfl rfl rfl rfl rfl (by kernel_rfl) Try.func7 (by kernel_rfl)
    (of_decide_eq_true (by kernel_rfl)) (by unfold Func.isWrapper; first | (rw [if_pos (by decide +kernel)]; kernel_rfl) | (rw [if_neg (by decide +kernel)]; exact ⟨rfl, rfl⟩))
    (fun os started H enc _ => packBack_lifted os started H enc)

#print axioms packBack_holds
end Go.Proofs.Yteogkgjajhdhjaa
