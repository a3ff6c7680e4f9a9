/-
  Layer 4: Bytes of package super: the block of a superblock that is right, an error else. No condition but that the snapshots can be read.
-/
import Derived.Test.YteogkgjajhdhjaaSuperB
import Derived.Test.YteogkgjajhdhjaaPackF
namespace Go.Proofs.Yteogkgjajhdhjaa
open Go.RowKit

theorem SuV.keep {F : List Nat} {w w' : World} {v : Value} {s : Sp.Su} (h : SuV w v s) (k : Keep F w w') (hF : ∀ x ∈ F, w.heap.size ≤ x) : SuV w' v s := by
  obtain ⟨ao, c, rfl, hr, hl⟩ := h
  exact ⟨ao, c, rfl, hr.keep k (fun x hx hf => by have := hr.lt (by omega) x hx; have := hF x hf; omega), hl⟩

theorem LW.beside {w0 w w' : World} {bw : Nat} {v : Value} {st st' : Pk.Wr} (h : LW w0.heap.size w bw v st) (k : Keep [] w0 w) (o : WOut w w' bw v st') {b : Nat} {cs : List Value} {t : TypeId} (B : Blk w b cs t) (hb : b ∉ wfp bw v) :
    ∃ v', LW w0.heap.size w' bw v' st' ∧ Keep [] w0 w' ∧ Blk w' b cs t ∧ b ∉ wfp bw v' := by
  obtain ⟨v', h1, h2, h3, h4⟩ := LW.step h k o
  have hlt := B.lt
  exact ⟨v', h1, h2, B.keep h3 hb, fun hx => (h4 b hx).elim hb (fun e => by omega)⟩

theorem put_fits (b l : List UInt8) (m : Nat) (may : Bool) (hm : may = true) (h : b.length + l.length ≤ m) : (⟨b, m, false⟩ : Pk.Wr).put l may = ⟨b ++ l, m, false⟩ := by
  subst hm
  simp [Pk.Wr.put, Pk.Wr.room]
  omega

namespace Sp
theorem within_iff (n a b : Int) : within n a b = true ↔ a ≤ n ∧ n ≤ b := by simp [within]
theorem rootB_le {n : Int} (h : rootB n = true) : 0 ≤ n ∧ n ≤ 4294967295 := by
  simp [rootB] at h
  omega

/-- what a snapshot that may be is within -/
def SnOk (commit : Int) (x : Sn) : Prop := x.name.size ≤ 18 ∧ 0 ≤ x.root ∧ x.root ≤ 4294967295 ∧ 0 ≤ x.commit ∧ x.commit ≤ commit

theorem chain_ok (commit : Int) : ∀ (l : List Sn) (last : List UInt8), chain commit last l = true → ∀ x ∈ l, SnOk commit x
  | [], _, _, x, hx => by cases hx
  | y :: l, last, h, x, hx => by
    simp only [chain, Bool.and_eq_true] at h
    rcases List.mem_cons.1 hx with rfl | hx
    · have h1 := h.1
      simp only [snapOk, Bool.and_eq_true, decide_eq_true_eq, within_iff, nm_len] at h1
      have h2 := rootB_le h1.1.2
      exact ⟨h1.1.1.1, h2.1, h2.2, h1.2.1, h1.2.2⟩
    · exact chain_ok commit l _ h.2 x hx

structure Bd (s : Su) : Prop where
  g0 : 1 ≤ s.gen
  g1 : s.gen ≤ 281474976710655
  r0 : 0 ≤ s.root
  r1 : s.root ≤ 4294967295
  n0 : 2 ≤ s.next
  n1 : s.next ≤ 1073741824
  c0 : 0 ≤ s.commit
  c1 : s.commit ≤ 281474976710655
  l : s.snaps.length ≤ 8
  x : ∀ x ∈ s.snaps, SnOk s.commit x

theorem right_bd {s : Su} (h : right s = true) : Bd s := by
  simp only [right, Bool.and_eq_true, decide_eq_true_eq, within_iff] at h
  have h2 := rootB_le h.1.1.1.1.2
  exact ⟨h.1.1.1.1.1.1, h.1.1.1.1.1.2, h2.1, h2.2, h.1.1.1.2.1, h.1.1.1.2.2, h.1.1.2.1, h.1.1.2.2, h.1.2, chain_ok _ _ _ h.2⟩

theorem head_length (s : Su) : (head s).length = 29 := by
  simp [head, Pk.be_length, sign]

theorem snapB_length {commit : Int} {x : Sn} (h : SnOk commit x) : (snapB x).length ≤ 31 := by
  have := h.1
  simp [snapB, Pk.be_length, nm_len]
  omega

theorem snaps_length {commit : Int} : ∀ {l : List Sn}, (∀ x ∈ l, SnOk commit x) → (l.flatMap snapB).length ≤ 31 * l.length
  | [], _ => by simp
  | x :: l, h => by
    have h1 := snapB_length (h x (by simp))
    have h2 := snaps_length (l := l) (fun y hy => h y (by simp [hy]))
    simp only [List.flatMap_cons, List.length_append, List.length_cons]
    omega

/-- what is written when k snapshots are -/
def upTo (s : Su) (k : Nat) : List UInt8 := head s ++ (s.snaps.take k).flatMap snapB
theorem upTo_length {s : Su} (h : Bd s) (k : Nat) : (upTo s k).length ≤ 277 := by
  have h1 := snaps_length (commit := s.commit) (l := s.snaps.take k) (fun x hx => h.x x (List.mem_of_mem_take hx))
  have h2 := h.l
  have h3 : (s.snaps.take k).length ≤ s.snaps.length := by rw [List.length_take]; omega
  rw [upTo, List.length_append, head_length]
  omega
theorem upTo_zero (s : Su) : upTo s 0 = head s := by simp [upTo]
theorem upTo_all (s : Su) : upTo s s.snaps.length = fields s := by simp [upTo, fields]
theorem upTo_succ (s : Su) (k : Nat) (x : Sn) (h : s.snaps[k]? = some x) : upTo s (k + 1) = upTo s k ++ (UInt8.ofNat (nm x).length :: nm x) ++ Pk.be x.root.toNat 4 ++ Pk.be x.commit.toNat 8 := by
  unfold upTo
  rw [List.take_add_one, h]
  simp [snapB, List.append_assoc]
theorem fields_length {s : Su} (h : Bd s) : (fields s).length ≤ 277 := by rw [← upTo_all]; exact upTo_length h _
theorem block_length {s : Su} (h : Bd s) : (block s).length = 512 := by
  have := fields_length h
  simp [block, Pk.be_length]
  omega
end Sp

theorem wlong_fits (b : List UInt8) (x : Int) (h : b.length + 8 ≤ 512) : (⟨b, 512, false⟩ : Pk.Wr).long x = ⟨b ++ Pk.be x.toNat 8, 512, false⟩ := put_fits _ _ _ _ rfl (by rw [Pk.be_length]; exact h)
theorem wword_fits (b : List UInt8) (x : Int) (h0 : 0 ≤ x) (h1 : x ≤ 4294967295) (h : b.length + 4 ≤ 512) : (⟨b, 512, false⟩ : Pk.Wr).word x = ⟨b ++ Pk.be x.toNat 4, 512, false⟩ := put_fits _ _ _ _ (decide_eq_true ⟨h0, h1⟩) (by rw [Pk.be_length]; exact h)
theorem wbyte_fits (b : List UInt8) (x : Int) (h0 : 0 ≤ x) (h1 : x ≤ 255) (h : b.length + 1 ≤ 512) : (⟨b, 512, false⟩ : Pk.Wr).byte x = ⟨b ++ Pk.be x.toNat 1, 512, false⟩ := put_fits _ _ _ _ (decide_eq_true ⟨h0, h1⟩) (by rw [Pk.be_length]; exact h)
theorem wraw_fits (b l : List UInt8) (h : b.length + l.length ≤ 512) : (⟨b, 512, false⟩ : Pk.Wr).raw l = ⟨b ++ l, 512, false⟩ := put_fits _ _ _ _ rfl h
theorem wtext_fits (b l : List UInt8) (hl : l.length ≤ 255) (h : b.length + (l.length + 1) ≤ 512) : (⟨b, 512, false⟩ : Pk.Wr).text l = ⟨b ++ (UInt8.ofNat l.length :: l), 512, false⟩ := put_fits _ _ _ _ (decide_eq_true hl) (by simpa using h)

set_option maxRecDepth 100000 in
set_option maxHeartbeats 800000 in
theorem bytes_no (s : Sp.Su) (v : Value) (w : World) (h : SuV w v s) (hr : Sp.right s = false) : Calls Try.prog 53 #[v] w fun e w' => e = .returned (.tuple #[.slice none 0 0, .int .i64 1]) ∧ Keep [] w w' := by
  have h0 := h
  obtain ⟨ao, c, rfl, _, _⟩ := h0
  go_enter Try.func53, Try.ntmps53
  go_wp2_with fail
  refine (right_any s _ _ (h.keep ((Keep.refl [] _).alloc _) (by simp))).mono ?_
  rintro e w2 ⟨rfl, k2⟩
  rw [hr]
  go_wp2
  go_ret2
  exact ⟨rfl, ((Keep.refl _ _).alloc _).trans k2 (by simp)⟩

set_option maxRecDepth 100000 in
set_option maxHeartbeats 1600000 in
theorem bytes_ok (s : Sp.Su) (v : Value) (w : World) (h : SuV w v s) (hr : Sp.right s = true) : Calls Try.prog 53 #[v] w fun e w' => ∃ ao c, e = .returned (.tuple #[.slice ao 512 c, .int .i64 0]) ∧ w'.ownsRow 0 5 1 (.slice ao 512 c) 512 (bv (Sp.block s)) ∧ Keep [] w w' ∧ ∀ k ∈ rowOf (.slice ao 512 c), w.heap.size ≤ k := by
  have h0 := h
  obtain ⟨ao, c, rfl, _, hl⟩ := h0
  have BD := Lib.hid (Sp.right_bd hr)
  go_enter Try.func53, Try.ntmps53
  go_wp2_with fail
  refine (right_any s _ _ (h.keep ((Keep.refl [] _).alloc _) (by simp))).mono ?_
  rintro e w2 ⟨rfl, k2⟩
  rw [hr]
  have B2 := (Blk.new' w [.int .i64 s.gen, .int .i64 s.root, .int .i64 s.next, .int .i64 s.commit, .slice ao s.snaps.length c] 59).keep k2 (by simp)
  have K2 : Keep [] w w2 := ((Keep.refl _ _).alloc _).trans k2 (by simp)
  clear k2
  have H2 := h.keep K2 (by simp)
  obtain ⟨ao', c', e', hrd, _⟩ := H2
  cases e'
  have HR := Lib.hid hrd
  clear hrd h
  obtain ⟨b0, hb0⟩ : ∃ b, b = w.heap.size := ⟨_, rfl⟩
  rw [← hb0] at B2 ⊢
  have HB0 := Lib.hid hb0
  clear hb0
  have cc := fun (wr : World) (K : Keep [] w2 wr) => (B2.keep K (by simp)).cell
  have CC := Lib.hid cc
  clear cc
  have c0 := B2.cell 0
  simp only [List.getElem?_cons_zero] at c0
  go_wp2_with fail
  refine (new_any 512 w2 (by omega)).mono ?_
  rintro e w3 ⟨rfl, h3, k3, _⟩
  obtain ⟨bw, hbw⟩ : ∃ bw, bw = w2.heap.size := ⟨_, rfl⟩
  have L3 : LW w2.heap.size w3 bw (.slice none 0 0) ⟨[], 512, false⟩ := by rw [hbw]; simpa using LW.new (Keep.refl _ _) h3
  rw [← hbw]
  have K3 : Keep [] w2 w3 := k3
  clear hbw h3 c0 k3
  have g0 := BD.out.g0
  have g1 := BD.out.g1
  have c0 := CC.out w3 K3 0
  simp only [List.getElem?_cons_zero] at c0
  go_wp2_with fail
  refine (long_any bw _ _ s.gen w3 (by omega) L3.isw).mono ?_
  rintro e w4 ⟨rfl, o⟩
  obtain ⟨v4, L4, K4, _, _⟩ := LW.step (w0 := w2) L3 K3 o
  rw [wlong_fits _ _ (by simp)] at L4
  clear o L3 K3 c0
  go_wp2_with fail
  refine (raw_any bw _ _ ⟨#[87, 65, 73, 78]⟩ w4 (by unfold maxLen; decide) L4.isw).mono ?_
  rintro e w5 ⟨rfl, o⟩
  obtain ⟨v5, L5, K5, _, _⟩ := LW.step (w0 := w2) L4 K4 o
  rw [wraw_fits _ _ (by simp [Pk.be_length])] at L5
  clear o L4 K4
  have r0 := BD.out.r0
  have r1 := BD.out.r1
  have c1 := CC.out w5 K5 1
  simp only [List.getElem?_cons_zero, List.getElem?_cons_succ] at c1
  go_wp2_with fail
  refine (word_any bw _ _ s.root w5 (by omega) (by omega) L5.isw).mono ?_
  rintro e w6 ⟨rfl, o⟩
  obtain ⟨v6, L6, K6, _, _⟩ := LW.step (w0 := w2) L5 K5 o
  rw [wword_fits _ _ r0 r1 (by simp [Pk.be_length])] at L6
  clear o L5 K5 c1
  have n0 := BD.out.n0
  have n1 := BD.out.n1
  have c2 := CC.out w6 K6 2
  simp only [List.getElem?_cons_zero, List.getElem?_cons_succ] at c2
  go_wp2_with fail
  refine (word_any bw _ _ s.next w6 (by omega) (by omega) L6.isw).mono ?_
  rintro e w7 ⟨rfl, o⟩
  obtain ⟨v7, L7, K7, _, _⟩ := LW.step (w0 := w2) L6 K6 o
  rw [wword_fits _ _ (by omega) (by omega) (by simp [Pk.be_length])] at L7
  clear o L6 K6 c2
  have m0 := BD.out.c0
  have m1 := BD.out.c1
  have c3 := CC.out w7 K7 3
  simp only [List.getElem?_cons_zero, List.getElem?_cons_succ] at c3
  go_wp2_with fail
  refine (long_any bw _ _ s.commit w7 (by omega) L7.isw).mono ?_
  rintro e w8 ⟨rfl, o⟩
  obtain ⟨v8, L8, K8, _, _⟩ := LW.step (w0 := w2) L7 K7 o
  rw [wlong_fits _ _ (by simp [Pk.be_length])] at L8
  clear o L7 K7 c3
  have l8 := BD.out.l
  have c4 := CC.out w8 K8 4
  simp only [List.getElem?_cons_zero, List.getElem?_cons_succ] at c4
  go_wp2_with fail
  refine (byte_any bw _ _ s.snaps.length w8 (by omega) (by omega) L8.isw).mono ?_
  rintro e w9 ⟨rfl, o⟩
  obtain ⟨v9, L9, K9, _, _⟩ := LW.step (w0 := w2) L8 K8 o
  rw [wbyte_fits _ _ (by omega) (by omega) (by simp [Pk.be_length])] at L9
  have e9 : (([] : List UInt8) ++ Pk.be s.gen.toNat 8 ++ (⟨#[87, 65, 73, 78]⟩ : ByteArray).data.toList ++ Pk.be s.root.toNat 4 ++ Pk.be s.next.toNat 4 ++ Pk.be s.commit.toNat 8 ++ Pk.be (s.snaps.length : Int).toNat 1) = Sp.upTo s 0 := by
    rw [Sp.upTo_zero, Int.toNat_natCast]
    simp [Sp.head, Sp.sign, List.append_assoc]
  rw [e9] at L9
  clear o L8 K8 c4 e9
  have c4 := CC.out w9 K9 4
  simp only [List.getElem?_cons_zero, List.getElem?_cons_succ] at c4
  go_wp2_with fail
  clear c4
  go_loopw [41] (fun i wr => ∃ (k : Nat) (vk : Value), k ≤ s.snaps.length ∧ i = .int .i64 k ∧ Keep [] w2 wr ∧ LW w2.heap.size wr bw vk ⟨Sp.upTo s k, 512, false⟩) (fun i _ => s.snaps.length - (intOf i).toNat)
  case atStart => exact ⟨0, _, Nat.zero_le _, rfl, K9, L9⟩
  case round =>
    clear L9 K9
    obtain ⟨k, vk, hk, rfl, K, L⟩ := hrel
    have hbl := Sp.upTo_length BD.out k
    by_cases hlt : k < s.snaps.length
    · obtain ⟨x, hx⟩ : ∃ x, s.snaps[k]? = some x := ⟨_, List.getElem?_eq_getElem hlt⟩
      obtain ⟨a, rfl, hab, d0, d1, d2⟩ := snap_cells HR.out K (by simp) hx
      obtain ⟨x0, x1, x2, x3, x4⟩ := BD.out.x x (List.mem_of_getElem? hx)
      have HS := Lib.hid (Sp.upTo_succ s k x hx)
      have hns := nm_len x
      have HN := Lib.hid hns
      clear hx hns
      have BX := Blk.new' wr [.string x.name, .int .i64 x.root, .int .i64 x.commit] 81
      have LX := L.keep ((Keep.refl [] wr).alloc (.cells [.string x.name, .int .i64 x.root, .int .i64 x.commit].toArray 81)) (by simp)
      have KX := K.alloc (.cells [.string x.name, .int .i64 x.root, .int .i64 x.commit].toArray 81)
      have NX : wr.heap.size ∉ wfp bw vk := fun h => by have := L.lt _ h; omega
      clear K L
      go_wp2_with fail
      refine (text_any bw _ _ x.name _ (by omega) LX.isw).mono ?_
      rintro e wa ⟨rfl, o⟩
      obtain ⟨va, La, Ka, BA, NA⟩ := LW.beside (w0 := w2) LX KX o BX NX
      rw [wtext_fits _ _ (by have := HN.out; unfold Sp.nm at this; omega) (by have := HN.out; unfold Sp.nm at this; omega)] at La
      have f1 := BA.cell 1
      simp only [List.getElem?_cons_zero, List.getElem?_cons_succ] at f1
      clear o LX KX BX NX
      go_wp2_with fail
      refine (word_any bw _ _ x.root _ (by omega) (by omega) La.isw).mono ?_
      rintro e wb ⟨rfl, o⟩
      obtain ⟨vb, Lb, Kb, BB, NB⟩ := LW.beside (w0 := w2) La Ka o BA NA
      rw [wword_fits _ _ x1 x2 (by have := HN.out; unfold Sp.nm at this; simp only [List.length_append, List.length_cons]; omega)] at Lb
      have f2 := BB.cell 2
      simp only [List.getElem?_cons_zero, List.getElem?_cons_succ] at f2
      clear o La Ka BA NA f1
      go_wp2_with fail
      refine (long_any bw _ _ x.commit _ x3 Lb.isw).mono ?_
      rintro e wc ⟨rfl, o⟩
      obtain ⟨vc, Lc, Kc, _, _⟩ := LW.beside (w0 := w2) Lb Kb o BB NB
      rw [wlong_fits _ _ (by have := HN.out; unfold Sp.nm at this; simp only [List.length_append, List.length_cons, Pk.be_length]; omega)] at Lc
      have HS' := HS.out
      unfold Sp.nm at HS'
      rw [← HS'] at Lc
      clear HS' f2 o
      go_wp2
      go_roundw
      case rel => exact ⟨k + 1, vc, by omega, by go_num, Kc, Lc⟩
      case measure => simp [intOf]; omega
    · obtain rfl : k = s.snaps.length := by omega
      have hbk : Sp.block s = Sp.upTo s s.snaps.length ++ List.replicate (504 - (Sp.upTo s s.snaps.length).length) 0 ++ Pk.be s.gen.toNat 8 := by rw [Sp.upTo_all]; rfl
      have HBK := Lib.hid hbk
      clear hbk
      go_wp2_with fail
      refine (fill_any bw _ _ 504 _ L.isw).mono ?_
      rintro e wa ⟨rfl, o⟩
      obtain ⟨va, La, Ka, _, _⟩ := LW.step (w0 := w2) L K o
      rw [fill_true _ _ rfl (by show ((Sp.upTo s s.snaps.length).length : Int) ≤ 504; omega) (by show (504 : Int) ≤ ((512 : Nat) : Int); omega)] at La
      have c0 := CC.out wa Ka 0
      simp only [List.getElem?_cons_zero] at c0
      clear o K L
      go_wp2_with fail
      refine (long_any bw _ _ s.gen _ (by omega) La.isw).mono ?_
      rintro e wb ⟨rfl, o⟩
      obtain ⟨vb, Lb, Kb, _, _⟩ := LW.step (w0 := w2) La Ka o
      have e0 : (504 : Int).toNat = 504 := rfl
      simp only [e0] at Lb
      rw [wlong_fits _ _ (by simp only [List.length_append, List.length_replicate]; omega), ← HBK.out] at Lb
      clear o c0 La Ka e0
      go_wp2_with fail
      refine (done_ok bw _ _ _ _ Lb.isw).mono ?_
      rintro e wc ⟨ao2, c2', rfl, o, kc, rc⟩
      have hb512 := Sp.block_length BD.out
      rw [hb512] at o rc ⊢
      go_wp2
      go_ret2
      exact ⟨ao2, c2', rfl, o, K2.trans (Kb.trans kc (by simp)) (by simp), fun x hx => by have h1 := rc x hx; have h2 := K2.size; have h3 := Kb.size; omega⟩
end Go.Proofs.Yteogkgjajhdhjaa
