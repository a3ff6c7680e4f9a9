/-
  Layer 4: Of of package super: the superblock whose block some bytes are, or none's. No condition but that the bytes can be read.
-/
import Derived.Test.YteogkgjajhdhjaaSuperD
import Derived.Test.YteogkgjajhdhjaaSuperEq
import Derived.Deep.RegionHeld3
import Derived.Deep.AppendLies
namespace Go.Proofs.Yteogkgjajhdhjaa
open Go.RowKit

/-- the superblock that is told, and the error -/
def ofS (l : List UInt8) : Sp.Su := (Sp.of l).getD ⟨0, 0, 0, 0, []⟩
def ofE (l : List UInt8) : Int := if (Sp.of l).isSome then 0 else 12

/-- a superblock as a value: its snapshots can be read, and lie in no block below B -/
def SuN (B : Nat) (w : World) (v : Value) (s : Sp.Su) : Prop :=
  ∃ ao c, v = .agg #[.int .i64 s.gen, .int .i64 s.root, .int .i64 s.next, .int .i64 s.commit, .slice ao s.snaps.length c] ∧ RdV w (.slice ao s.snaps.length c) s.snaps.length 3 (Sp.scells s.snaps) ∧ s.snaps.length ≤ 9223372036854775807 ∧ ∀ x ∈ fpOf (.slice ao s.snaps.length c), B ≤ x

theorem SuN.su {B : Nat} {w : World} {v : Value} {s : Sp.Su} (h : SuN B w v s) : SuV w v s := by
  obtain ⟨ao, c, h1, h2, h3, _⟩ := h
  exact ⟨ao, c, h1, h2, h3⟩
theorem SuN.keep {F : List Nat} {B : Nat} {w w' : World} {v : Value} {s : Sp.Su} (h : SuN B w v s) (k : Keep F w w') (hF : ∀ x ∈ F, x < B) : SuN B w' v s := by
  obtain ⟨ao, c, h1, h2, h3, h4⟩ := h
  exact ⟨ao, c, h1, h2.keep k (fun x hx hf => by have := h4 x hx; have := hF x hf; omega), h3, h4⟩
theorem SuN.mono {B B' : Nat} {w : World} {v : Value} {s : Sp.Su} (h : SuN B w v s) (hB : B' ≤ B) : SuN B' w v s := by
  obtain ⟨ao, c, h1, h2, h3, h4⟩ := h
  exact ⟨ao, c, h1, h2, h3, fun x hx => Nat.le_trans hB (h4 x hx)⟩
theorem SuN.zero (B : Nat) (w : World) : SuN B w (.agg #[.int .i64 0, .int .i64 0, .int .i64 0, .int .i64 0, .slice none 0 0]) ⟨0, 0, 0, 0, []⟩ :=
  ⟨none, 0, rfl, ⟨rfl, none, 0, rfl, Nat.le_refl _, fun _ => ⟨rfl, rfl⟩, fun a ha => by cases ha⟩, Nat.zero_le _, fun x hx => by simp [fpOf] at hx⟩

def OfOut (l : List UInt8) (w : World) (e : Ending) (w' : World) : Prop := ∃ v, e = .returned (.tuple #[v, .int .i64 (ofE l)]) ∧ SuN w.heap.size w' v (ofS l) ∧ Keep [] w w'

theorem of_no {l : List UInt8} {w w' : World} {e : Ending} (h : Sp.of l = none) (he : e = .returned (.tuple #[.agg #[.int .i64 0, .int .i64 0, .int .i64 0, .int .i64 0, .slice none 0 0], .int .i64 12])) (k : Keep [] w w') : OfOut l w e w' := by
  have e1 : ofS l = ⟨0, 0, 0, 0, []⟩ := by unfold ofS; rw [h]; rfl
  have e2 : ofE l = 12 := by unfold ofE; rw [h]; rfl
  unfold OfOut
  rw [e1, e2]
  exact ⟨_, he, SuN.zero _ _, k⟩

theorem of_yes {l : List UInt8} {w w' : World} {e : Ending} {s : Sp.Su} {v : Value} (h : Sp.of l = some s) (he : e = .returned (.tuple #[v, .int .i64 0])) (sv : SuN w.heap.size w' v s) (k : Keep [] w w') : OfOut l w e w' := by
  have e1 : ofS l = s := by unfold ofS; rw [h]; rfl
  have e2 : ofE l = 0 := by unfold ofE; rw [h]; rfl
  unfold OfOut
  rw [e1, e2]
  exact ⟨_, he, sv, k⟩

set_option maxRecDepth 100000 in
set_option maxHeartbeats 1600000 in
theorem of_short (v : Value) (l : List UInt8) (w : World) (h : RdV w v l.length 1 (bv l)) (h512 : l.length ≠ 512) : Calls Try.prog 55 #[v] w (OfOut l w) := by
  have hno : Sp.of l = none := by unfold Sp.of; rw [if_neg (fun h => h512 h.1)]
  obtain ⟨_, ao, c, rfl, _, _, _⟩ := h
  have hd : ((l.length : Int) == 512) = false := by rw [beq_eq_false_iff_ne]; omega
  have hd' : ((l.length : Int) != 512) = true := by simp only [bne, hd]; rfl
  clear h512
  have HNO := Lib.hid hno
  clear hno
  go_enter Try.func55, Try.ntmps55
  go_wp2
  refine bodyPost_ret (v := .tuple #[.agg #[.int .i64 0, .int .i64 0, .int .i64 0, .int .i64 0, .slice none 0 0], .int .i64 12]) (by simp [results, Try.results55, go_sem]) rfl (of_no HNO.out rfl ?_)
  exact ((Keep.refl _ _).alloc _)

/-- in the loop of Of: the reader at br, the superblock being read at b8, its snapshots in vs; w7 is the world at the loop's begin -/
structure OfAt (w7 wr : World) (br b8 : Nat) (a0 a1 a2 a3 : Int) (vs u : Value) (sofar : List Sp.Sn) (r : Pk.Rd) : Prop where
  keep : Keep [br, b8] w7 wr
  isr : IsR wr br u r
  rlt : ∀ x ∈ rfp br u, x < w7.heap.size ∧ x ≠ b8
  blk : Blk wr b8 [.int .i64 a0, .int .i64 a1, .int .i64 a2, .int .i64 a3, vs] 59
  blt : b8 < w7.heap.size
  own : wr.ownsRow 0 81 3 vs sofar.length (Sp.scells sofar)
  row : ∀ x ∈ rowOf vs, w7.heap.size ≤ x

theorem OfAt.moved {w7 wr w' : World} {br b8 : Nat} {a0 a1 a2 a3 : Int} {vs u : Value} {sofar : List Sp.Sn} {r : Pk.Rd} (h : OfAt w7 wr br b8 a0 a1 a2 a3 vs u sofar r) (k : Keep [] wr w') : OfAt w7 w' br b8 a0 a1 a2 a3 vs u sofar r :=
  ⟨h.keep.trans k (by simp), h.isr.keep k (by simp) (by simp), h.rlt, h.blk.keep k (by simp), h.blt, ownsRow_keep h.own k (by simp), h.row⟩

theorem OfAt.read {w7 wr w' : World} {br b8 : Nat} {a0 a1 a2 a3 : Int} {vs u : Value} {sofar : List Sp.Sn} {r r' : Pk.Rd} (h : OfAt w7 wr br b8 a0 a1 a2 a3 vs u sofar r) (o : ROut wr w' br u r') :
    ∃ u', OfAt w7 w' br b8 a0 a1 a2 a3 vs u' sofar r' := by
  obtain ⟨u', h1, k1, f1⟩ := o
  have hbr := (h.rlt br (by simp [rfp])).1
  have hne := (h.rlt br (by simp [rfp])).2
  refine ⟨u', ⟨h.keep.trans k1 (by simp), h1, fun x hx => ?_, h.blk.keep k1 (by simp; omega), h.blt, ownsRow_keep h.own k1 (fun x hx hx' => by simp at hx'; have := h.row x hx; omega), h.row⟩⟩
  rcases List.mem_cons.1 hx with rfl | hx
  · exact h.rlt _ (by simp [rfp])
  · exact h.rlt x (List.mem_cons_of_mem _ (f1 x hx))

theorem OfAt.cell {w7 wr : World} {br b8 : Nat} {a0 a1 a2 a3 : Int} {vs u : Value} {sofar : List Sp.Sn} {r : Pk.Rd} (h : OfAt w7 wr br b8 a0 a1 a2 a3 vs u sofar r) : wr.cell? ⟨b8, 4, none⟩ = some vs := h.blk.cell 4

/-- a snapshot more -/
theorem OfAt.push {w7 wr w' : World} {br b8 : Nat} {a0 a1 a2 a3 : Int} {vs u vs' : Value} {sofar : List Sp.Sn} {r : Pk.Rd} (h : OfAt w7 wr br b8 a0 a1 a2 a3 vs u sofar r) {x : Sp.Sn} {n : Nat} (hn : n = sofar.length + 1) (o : AppOut 81 3 wr vs n (Sp.scells sofar ++ x.cells) vs' w') :
    OfAt w7 (w'.setCell ⟨b8, 4, none⟩ vs') br b8 a0 a1 a2 a3 vs' u (sofar ++ [x]) r := by
  obtain ⟨o1, o2, o3⟩ := o
  have hb8 := h.blt
  have hkg : Keep (rowOf vs) wr w' := (Keep.refl _ _).grown o2 (fun k hk => Or.inl (mem_rowOf.2 hk))
  have hrow' : ∀ k ∈ rowOf vs', w7.heap.size ≤ k := fun k hk => (o3 k hk).elim (h.row k) (fun e => Nat.le_trans h.keep.size e)
  have hk2 : Keep (b8 :: rowOf vs) wr (w'.setCell ⟨b8, 4, none⟩ vs') := (hkg.mono (by intro x hx; simp [hx])).setCell (Or.inl (by simp)) _
  have B' := h.blk.keep hkg (fun hx => by have := h.row _ hx; omega)
  have hs : Sp.scells (sofar ++ [x]) = Sp.scells sofar ++ x.cells := by simp [Sp.scells]
  subst hn
  refine ⟨(h.keep.trans hk2 ?_), h.isr.keep hk2 ?_ ?_, h.rlt, B'.set 4 vs', h.blt, ?_, hrow'⟩
  · intro x hx
    rcases List.mem_cons.1 hx with rfl | hx
    · exact Or.inl (by simp)
    · exact Or.inr (h.row x hx)
  · intro hx
    have h1 := h.rlt br (by simp [rfp])
    rcases List.mem_cons.1 hx with rfl | hx
    · exact h1.2 rfl
    · have := h.row _ hx; omega
  · intro y hy hx
    have h1 := h.rlt y (List.mem_cons_of_mem _ hy)
    rcases List.mem_cons.1 hx with rfl | hx
    · exact h1.2 rfl
    · have := h.row _ hx; omega
  · rw [hs, List.length_append]
    exact ownsRow_keep o1 ((Keep.refl [b8] _).setCell (Or.inl (by simp)) _) (fun x hx hx' => by simp at hx'; subst hx'; have := hrow' _ hx; omega)

theorem OfAt.mid {w7 wr w' : World} {br b8 : Nat} {a0 a1 a2 a3 : Int} {vs u vs' : Value} {sofar : List Sp.Sn} {r : Pk.Rd} (h : OfAt w7 wr br b8 a0 a1 a2 a3 vs u sofar r) {zs : List Value} {n : Nat} (o : AppOut 81 3 wr vs n zs vs' w') :
    w'.cell? ⟨b8, 4, none⟩ = some vs ∧ w'.frozen? ⟨b8, 4, none⟩ = false := by
  have hb8 := h.blt
  have hkg : Keep (rowOf vs) wr w' := (Keep.refl _ _).grown o.2.1 (fun k hk => Or.inl (mem_rowOf.2 hk))
  have B' := h.blk.keep hkg (fun hx => by have := h.row _ hx; omega)
  exact ⟨B'.cell 4, B'.free 4⟩

theorem OfAt.late {w7 wc wd W we : World} {br b8 bs : Nat} {a0 a1 a2 a3 : Int} {vs u : Value} {sofar : List Sp.Sn} {r : Pk.Rd} (h : OfAt w7 wc br b8 a0 a1 a2 a3 vs u sofar r) (kd : Keep [] wc.drew wd) (KW : Keep [] wd W) (sge : wc.drew.heap.size ≤ bs) (ke : Keep [bs] W we) :
    (we.cell? ⟨b8, 1, none⟩ = some (.int .i64 a1) ∧ we.cell? ⟨b8, 2, none⟩ = some (.int .i64 a2) ∧ we.cell? ⟨b8, 3, none⟩ = some (.int .i64 a3)) ∧ b8 < we.heap.size ∧ Keep [] wc we := by
  have hb := h.blk.lt
  have k1 : Keep [] wc W := (((Keep.refl [] wc).drew).trans kd (by simp)).trans KW (by simp)
  have sge' : wc.heap.size ≤ bs := sge
  have k2 : Keep [] wc we := k1.trans ke (fun x hx => by rw [List.mem_singleton] at hx; subst hx; exact Or.inr sge')
  have B := h.blk.keep k2 (by simp)
  exact ⟨⟨B.cell 1, B.cell 2, B.cell 3⟩, B.lt, k2⟩

theorem late_sizes {w : World} {o : Obj} {b : Nat} (h : (w.alloc o).drew.heap.size ≤ b) : w.drew.heap.size ≤ b ∧ b ≠ w.heap.size := by
  have e : (w.alloc o).drew.heap.size = w.heap.size + 1 := by show (w.alloc o).heap.size = _; rw [World.size_alloc]
  have e2 : w.drew.heap.size = w.heap.size := rfl
  omega

theorem take_all (b : List UInt8) (n : Int) (h : (b.length : Int) = n) : (⟨b, false⟩ : Pk.Rd).take n = b := by
  subst h
  simp [Pk.Rd.take, Pk.Rd.can]

theorem Blk.set4 {w : World} {b : Nat} {x0 x1 x2 x3 : Value} {t : TypeId} (h : Blk w b [x0, x1, x2, x3] t) (y0 y1 y2 y3 : Value) :
    Blk ((((w.setCell ⟨b, 0, none⟩ y0).setCell ⟨b, 1, none⟩ y1).setCell ⟨b, 2, none⟩ y2).setCell ⟨b, 3, none⟩ y3) b [y0, y1, y2, y3] t := (((h.set 0 y0).set 1 y1).set 2 y2).set 3 y3

theorem of_eq {l : List UInt8} {r0 r1 r2 r3 r4 r5 r6 r7 : Pk.Rd} {g co : Int} {ro ne n : Nat} {is : Bool} {sn : List Sp.Sn} (h512 : l.length = 512) (h0 : r0 = ⟨l.take 504, false⟩) (h1 : r1 = r0.skip 8) (hg : g = Sp.num (r0.take 8)) (h2 : r2 = r1.skip 4) (his : ((txt (r1.take 4)).toList == [87, 65, 73, 78]) = is)
    (hro : ro = Pk.rd (r2.take 4)) (h3 : r3 = r2.skip 4) (hne : ne = Pk.rd (r3.take 4)) (h4 : r4 = r3.skip 4) (hco : co = Sp.num (r4.take 8)) (h5 : r5 = r4.skip 8) (hn : n = Pk.rd (r5.take 1)) (h6 : r6 = r5.skip 1) (hs : sn = (Sp.readSnaps n r6).1) (h7 : r7 = (Sp.readSnaps n r6).2) :
    Sp.of l = if is = true ∧ r7.bad = false ∧ r7.noughts = true ∧ Sp.num (l.drop 504) = g ∧ Sp.right ⟨g, ro, ne, co, sn⟩ = true then some ⟨g, ro, ne, co, sn⟩ else none := by
  subst h0 h1 hg h2 hro h3 hne h4 hco h5 hn h6 hs h7 his
  unfold Sp.of Sp.readAll
  refine ite_congr (propext ?_) (fun _ => rfl) (fun _ => rfl)
  rw [Lib.toList_data]
  simp [h512, txt, Sp.sign]

theorem readSnaps_le : ∀ (n : Nat) (r : Pk.Rd), (Sp.readSnaps n r).1.length ≤ n
  | 0, r => by simp [Sp.readSnaps]
  | n + 1, r => by
    unfold Sp.readSnaps
    split
    · simp
    · have := readSnaps_le n (((rtextSkip r).skip 4).skip 8)
      simp only [List.length_cons]
      omega

/-- m snapshots are to be read yet; p is what all come to -/
def ReadAt (p : List Sp.Sn × Pk.Rd) (m : Nat) (sofar : List Sp.Sn) (r : Pk.Rd) : Prop := (sofar ++ (Sp.readSnaps m r).1, (Sp.readSnaps m r).2) = p

theorem ReadAt.done0 {p : List Sp.Sn × Pk.Rd} {sofar : List Sp.Sn} {r : Pk.Rd} (h : ReadAt p 0 sofar r) : p = (sofar, r) := by
  unfold ReadAt at h
  rw [← h]
  simp [Sp.readSnaps]

theorem ReadAt.doneBad {p : List Sp.Sn × Pk.Rd} {m : Nat} {sofar : List Sp.Sn} {r : Pk.Rd} (h : ReadAt p m sofar r) (hb : r.bad = true) : p = (sofar, r) := by
  cases m with
  | zero => exact h.done0
  | succ m =>
    unfold ReadAt at h
    rw [← h]
    simp [Sp.readSnaps, hb]

theorem ReadAt.step {p : List Sp.Sn × Pk.Rd} {m : Nat} {sofar : List Sp.Sn} {r : Pk.Rd} (h : ReadAt p (m + 1) sofar r) (hb : r.bad = false) :
    ReadAt p m (sofar ++ [⟨txt (rtext r), Pk.rd ((rtextSkip r).take 4), Sp.num (((rtextSkip r).skip 4).take 8)⟩]) (((rtextSkip r).skip 4).skip 8) := by
  unfold ReadAt at h ⊢
  rw [← h]
  simp [Sp.readSnaps, hb]

theorem Try.info81 : (Try.prog.info? 81).map (fun i => (i.zero, i.size, i.bytes)) = some (some (.agg #[.string ⟨#[]⟩, .int .i64 0, .int .i64 0]), 3, 32) := by kernel_rfl

set_option maxRecDepth 100000 in
set_option maxHeartbeats 3200000 in
theorem of_walk (v : Value) (l : List UInt8) (w : World) (h : RdV w v l.length 1 (bv l)) (h512 : l.length = 512) : Calls Try.prog 55 #[v] w (OfOut l w) := by
  obtain ⟨hl, ao, c, rfl, hc, hnn, hx⟩ := h
  have RH := rd_take (m := 504) (l := l) (w := w) hc (by omega) hnn hx
  have RT := rd_drop (m := 504) (l := l) (w := w) (ao' := ao.map (fun x => x.add 504)) hc (by omega) hnn hx (Or.inr rfl)
  have hx' : l.length = 512 := h512
  have H5 := Lib.hid h512
  rw [h512] at hc RT ⊢
  have HH := Lib.hid RH
  have HT := Lib.hid RT
  clear RH RT hl hnn hx h512 hx'
  go_enter Try.func55, Try.ntmps55
  go_wp2_with fail
  refine (read_any _ (l.take 504) _ (by rw [show (l.take 504).length = 504 by rw [List.length_take]; have := H5.out; omega]; exact HH.out.keep ((Keep.refl [] w).alloc _) (by simp)) (by rw [List.length_take]; have := H5.out; omega)).mono ?_
  rintro e w1 ⟨br, u1, rfl, h1, k1, b1, q1⟩
  obtain ⟨wA, hwA⟩ : ∃ wA, wA = w.alloc (.cells #[.int .i64 0, .int .i64 0, .int .i64 0, .int .i64 0, .slice none 0 0] 59) := ⟨_, rfl⟩
  have KA : Keep [] w wA := by rw [hwA]; exact (Keep.refl _ _).alloc _
  have BA : Blk wA w.heap.size [.int .i64 0, .int .i64 0, .int .i64 0, .int .i64 0, .slice none 0 0] 59 := by rw [hwA]; exact Blk.new' _ _ _
  rw [← hwA] at k1 b1 q1
  clear hwA
  have R1 : LR wA.heap.size w1 br u1 ⟨l.take 504, false⟩ := LR.new (Keep.refl _ _) h1 b1 q1
  clear h1 b1 q1
  obtain ⟨r0, hr0⟩ : ∃ r, r = (⟨l.take 504, false⟩ : Pk.Rd) := ⟨_, rfl⟩
  have HR0 := Lib.hid hr0
  rw [← hr0] at R1
  clear hr0
  go_wp2_with fail
  refine (num_any br u1 _ _ R1.isr).mono ?_
  rintro e w2 ⟨rfl, o⟩
  obtain ⟨u2, R2, K2, _, _⟩ := LR.step (w0 := wA) R1 k1 o
  clear R1 k1 o
  obtain ⟨g, hg⟩ : ∃ g, g = Sp.num (r0.take 8) := ⟨_, rfl⟩
  obtain ⟨r1, hr1⟩ : ∃ r, r = r0.skip 8 := ⟨_, rfl⟩
  have HG := Lib.hid hg
  have HR1 := Lib.hid hr1
  rw [← hg]
  rw [← hr1] at R2
  clear hg hr1
  go_wp2_with fail
  refine (rraw_any br u2 _ _ _ R2.isr).mono ?_
  rintro e w3 ⟨rfl, o⟩
  obtain ⟨u3, R3, K3, _, _⟩ := LR.step (w0 := wA) R2 K2 o
  clear R2 K2 o
  obtain ⟨is, his⟩ : ∃ b, ((txt (r1.take 4)).toList == [87, 65, 73, 78]) = b := ⟨_, rfl⟩
  obtain ⟨r2, hr2⟩ : ∃ r, r = r1.skip 4 := ⟨_, rfl⟩
  have HR2 := Lib.hid hr2
  rw [← hr2] at R3
  clear hr2
  go_wp2_with fail
  have HIS := Lib.hid his
  clear his
  refine (rword_any br u3 _ _ R3.isr).mono ?_
  rintro e w4 ⟨rfl, o⟩
  obtain ⟨u4, R4, K4, _, _⟩ := LR.step (w0 := wA) R3 K3 o
  clear R3 K3 o
  obtain ⟨ro, hro⟩ : ∃ n : Nat, n = Pk.rd (r2.take 4) := ⟨_, rfl⟩
  obtain ⟨r3, hr3⟩ : ∃ r, r = r2.skip 4 := ⟨_, rfl⟩
  have HRO := Lib.hid hro
  have HR3 := Lib.hid hr3
  rw [← hro]
  rw [← hr3] at R4
  clear hro hr3
  go_wp2_with fail
  refine (rword_any br u4 _ _ R4.isr).mono ?_
  rintro e w5 ⟨rfl, o⟩
  obtain ⟨u5, R5, K5, _, _⟩ := LR.step (w0 := wA) R4 K4 o
  clear R4 K4 o
  obtain ⟨ne, hne⟩ : ∃ n : Nat, n = Pk.rd (r3.take 4) := ⟨_, rfl⟩
  obtain ⟨r4, hr4⟩ : ∃ r, r = r3.skip 4 := ⟨_, rfl⟩
  have HNE := Lib.hid hne
  have HR4 := Lib.hid hr4
  rw [← hne]
  rw [← hr4] at R5
  clear hne hr4
  go_wp2_with fail
  refine (num_any br u5 _ _ R5.isr).mono ?_
  rintro e w6 ⟨rfl, o⟩
  obtain ⟨u6, R6, K6, _, _⟩ := LR.step (w0 := wA) R5 K5 o
  clear R5 K5 o
  obtain ⟨co, hco⟩ : ∃ n, n = Sp.num (r4.take 8) := ⟨_, rfl⟩
  obtain ⟨r5, hr5⟩ : ∃ r, r = r4.skip 8 := ⟨_, rfl⟩
  have HCO := Lib.hid hco
  have HR5 := Lib.hid hr5
  rw [← hco]
  rw [← hr5] at R6
  clear hco hr5
  go_wp2_with fail
  obtain ⟨wB, hwB⟩ : ∃ wB, wB = ((w6.alloc (.cells #[.int .i64 g, .int .i64 ro, .int .i64 ne, .int .i64 co] 103)).alloc (.cells #[.int .i64 g, .int .i64 ro, .int .i64 ne, .int .i64 co, .slice none 0 0] 59)) := ⟨_, rfl⟩
  have KB : Keep [] w6 wB := by rw [hwB]; exact ((Keep.refl _ _).alloc _).alloc _
  obtain ⟨b7, hb7⟩ : ∃ b, b = w6.heap.size := ⟨_, rfl⟩
  obtain ⟨b8, hb8⟩ : ∃ b, b = w6.heap.size + 1 := ⟨_, rfl⟩
  have B7 : Blk wB b7 [.int .i64 g, .int .i64 ro, .int .i64 ne, .int .i64 co] 103 := by rw [hwB, hb7]; exact (Blk.new' w6 _ _).alloc _
  have B8 : Blk wB b8 [.int .i64 g, .int .i64 ro, .int .i64 ne, .int .i64 co, .slice none 0 0] 59 := by
    have := Blk.new' (w6.alloc (.cells #[.int .i64 g, .int .i64 ro, .int .i64 ne, .int .i64 co] 103)) [.int .i64 g, .int .i64 ro, .int .i64 ne, .int .i64 co, .slice none 0 0] 59
    rw [hwB, hb8]
    simpa using this
  obtain ⟨b2, hb2⟩ : ∃ b, b = w.heap.size := ⟨_, rfl⟩
  rw [← hb2] at BA ⊢
  rw [← hwB, ← hb8, ← hb7]
  have hbr6 := R6.lt
  have hbr6' := R6.hb
  have hb2A := BA.lt
  have hb2s := Nat.lt_of_lt_of_le hb2A K6.size
  have F : b2 ≠ b7 ∧ b2 ≠ b8 ∧ b7 ≠ b8 ∧ br ≠ b2 ∧ br ≠ b7 ∧ br ≠ b8 ∧ (∀ x ∈ rfp br u6, x ≠ b8) ∧ w.heap.size ≤ br ∧ w.heap.size ≤ b8 ∧ wA.heap.size ≤ br := by
    have h1 := hbr6 br (by simp [rfp])
    refine ⟨by omega, by omega, by omega, by omega, by omega, by omega, fun x hx => by have := hbr6 x hx; omega, by have := KA.size; omega, by have := KA.size; have := K6.size; omega, by omega⟩
  have R7 := R6.keep KB (by simp)
  have K7 : Keep [] wA wB := K6.trans KB (by simp)
  clear hwB hb7 hb8 hbr6 hbr6' R6 K6 KB hb2A hb2s
  have HF := Lib.hid F
  have HB2 := Lib.hid hb2
  clear F hb2
  refine (rbyte_any br u6 _ _ R7.isr).mono ?_
  rintro e w7 ⟨rfl, o⟩
  obtain ⟨u7, R8, K8, kk, rr⟩ := LR.step (w0 := wA) R7 K7 o
  obtain ⟨n, hn⟩ : ∃ n : Nat, n = Pk.rd (r5.take 1) := ⟨_, rfl⟩
  obtain ⟨r6, hr6⟩ : ∃ r, r = r5.skip 1 := ⟨_, rfl⟩
  have HN := Lib.hid hn
  have HR6 := Lib.hid hr6
  rw [← hn]
  rw [← hr6] at R8
  have B7' := B7.keep kk (by have := HF.out; simp; omega)
  have B8' := B8.keep kk (by have := HF.out; simp; omega)
  have B2' := (BA.keep K7 (by simp)).keep kk (by have := HF.out; simp; omega)
  have A7 : OfAt w7 w7 br b8 g ro ne co (.slice none 0 0) u7 [] r6 := ⟨Keep.refl _ _, R8.isr, fun x hx => ⟨R8.lt x hx, HF.out.2.2.2.2.2.2.1 x (rr x hx)⟩, B8', B8'.lt, World.ownsRow_nil _ _ _ _, by simp [rowOf, Value.ownBlock]⟩
  have K : Keep [] w w7 := KA.trans K8 (by simp)
  clear R7 K7 o kk rr B7 B8 BA hn hr6 R8 K8 B8' KA
  have hn255 : n ≤ 255 := by
    rw [HN.out]
    have h1 := Pk.rd_lt (r5.take 1)
    have h2 : (r5.take 1).length ≤ 1 := by unfold Pk.Rd.take; split <;> simp; omega
    have h3 : 256 ^ (r5.take 1).length ≤ 256 ^ 1 := Nat.pow_le_pow_right (by omega) h2
    omega
  obtain ⟨p, hp⟩ : ∃ p, p = Sp.readSnaps n r6 := ⟨_, rfl⟩
  have HP := Lib.hid hp
  have P7 : ReadAt p n [] r6 := by unfold ReadAt; rw [hp]; rfl
  clear hp
  obtain ⟨i0, hi, hz0, hz1, hz2⟩ := info_parts Try.info81
  go_upto_block 0 with fail
  go_cut [9] (fun s9 wx => ∃ vs u : Value, OfAt w7 wx br b8 g ro ne co vs u p.1 p.2)
  case first =>
    go_wp2_with fail
    go_loopw [9] (fun i wr => ∃ (m : Nat) (sofar : List Sp.Sn) (vs u : Value) (r : Pk.Rd), i = .int .i64 m ∧ m + sofar.length = n ∧ ReadAt p m sofar r ∧ OfAt w7 wr br b8 g ro ne co vs u sofar r) (fun i _ => (intOf i).toNat)
    case atStart => exact ⟨n, [], _, _, r6, rfl, rfl, P7, A7⟩
    case round =>
      clear A7 P7
      obtain ⟨m, sofar, vs, u, r, rfl, hmn, P, A⟩ := hrel
      cases m with
      | zero =>
        have hp := P.done0
        have HPP := Lib.hid hp
        clear hp
        go_wp2
        go_meet
        case rel => exact ⟨vs, u, by rw [HPP.out]; exact A⟩
      | succ m =>
        cases hb : r.bad with
        | true =>
          have hp := P.doneBad hb
          have HPP := Lib.hid hp
          clear hp
          go_wp2_with (go_at_call 24; refine (wrong_any br _ _ _ A.isr).mono ?_; rintro e w' ⟨rfl, rfl⟩; rw [hb])
          go_meet
          case rel => exact ⟨vs, u, by rw [HPP.out]; exact A⟩
        | false =>
          have P2 := P.step hb
          have A1 := A.moved ((Keep.refl [] wr).drew)
          have hvs := slice_of_own A.own
          obtain ⟨avs, cvs, rfl⟩ := hvs
          go_wp2_with (go_at_call 24; refine (wrong_any br _ _ _ A.isr).mono ?_; rintro e w' ⟨rfl, rfl⟩; rw [hb])
          have hb8 := A.blk.lt
          have c4 := A.cell
          go_region_law
            (first
              | (go_simp; go_at_call 23; refine (rtext_any br _ _ _ A1.isr).mono ?_; rintro e wa ⟨rfl, o⟩; obtain ⟨ua, A2⟩ := A1.read o; have c4a := A2.cell; clear o)
              | (go_simp; go_at_call 30; refine (rword_any br _ _ _ A2.isr).mono ?_; rintro e wb ⟨rfl, o⟩; obtain ⟨ub, A3⟩ := A2.read o; have c4b := A3.cell; clear o)
              | (go_simp; go_at_call 75; refine (num_any br _ _ _ A3.isr).mono ?_; rintro e wc ⟨rfl, o⟩; obtain ⟨uc, A4⟩ := A3.read o; have c4c := A4.cell; have hb8c := A4.blk.lt; clear o)
              | (have o4 := A4.own; refine step_app rfl (.tmp 54) (.tmp 63) 57 57 rfl _ _ rfl rfl (run_app_slice _ 57 _ 81 i0 _ 3 32 Try.underlying57 hi hz0 hz1 hz2 rfl (by decide) _ _ _ (o4.alloc _) (some ⟨wc.heap.size, 0, none⟩) 1 1 [_, _, _] rfl (fun h => by cases h) (by intro a ha; cases ha; exact World.news_of_block (heap_alloc_new _ _)) (by simp [Value.oneCell']) (by unfold maxLen; omega) (by omega)) ?_; intro v2 w9 hO; obtain ⟨ao2, cp2, rfl⟩ := hO.slice; have A5 := A4.moved ((Keep.refl [] wc).alloc (.cells #[.string (txt (rtext r)), .int .i64 (Pk.rd ((rtextSkip r).take 4)), .int .i64 (Sp.num (((rtextSkip r).skip 4).take 8))] 81)); obtain ⟨c4d, f4d⟩ := A5.mid hO; have A6 := A5.push (x := ⟨txt (rtext r), Pk.rd ((rtextSkip r).take 4), Sp.num (((rtextSkip r).skip 4).take 8)⟩) rfl hO))
          all_goals
            clear c4 c4a c4b c4c c4d f4d A1 A2 A3 A4 A5
            go_wp2
            go_roundw
            case rel => exact ⟨m, _, _, _, _, by go_num, by rw [List.length_append]; simp; omega, P2, A6⟩
            case measure => simp [intOf]
  case rest =>
    clear A7 P7
    obtain ⟨vs, u, A⟩ := hcut
    obtain ⟨r7, hr7⟩ : ∃ r, r = p.2 := ⟨_, rfl⟩
    obtain ⟨sn, hsn⟩ : ∃ s, s = p.1 := ⟨_, rfl⟩
    rw [← hr7, ← hsn] at A
    have HR7 := Lib.hid hr7
    have HSN := Lib.hid hsn
    have hsnl : sn.length ≤ 255 := by rw [hsn, HP.out]; exact Nat.le_trans (readSnaps_le _ _) hn255
    clear hr7 hsn
    obtain ⟨avs, cvs, rfl⟩ := slice_of_own A.own
    have KC : Keep [] w wc := K.trans A.keep (fun x hx => by have := HF.out; simp at hx; rcases hx with rfl | rfl <;> omega)
    have A1 := A.moved ((Keep.refl [] wc).drew)
    have B7c := B7'.keep A.keep (by have := HF.out; simp; omega)
    have B2c := B2'.keep A.keep (by have := HF.out; simp; omega)
    have hb8 := A.blk.lt
    have e1 : wc.cell? ⟨b8, 1, none⟩ = some (.int .i64 ro) := A.blk.cell 1
    have e2 : wc.cell? ⟨b8, 2, none⟩ = some (.int .i64 ne) := A.blk.cell 2
    have e3 : wc.cell? ⟨b8, 3, none⟩ = some (.int .i64 co) := A.blk.cell 3
    have hc504 : ¬ (c = 504) := by omega
    have rdT : RdV wc.drew (.slice (ao.map (fun x => ({ block := x.block, off := x.off + 504 } : Addr))) 8 (c - 504)) (l.drop 504).length 1 (bv (l.drop 504)) := by
      have ea : (fun x : Addr => ({ block := x.block, off := x.off + 504 } : Addr)) = fun x => x.add 504 := by funext x; simp [Addr.add]
      rw [List.length_drop, H5.out, ea]
      exact HT.out.1.keep KC.drew (by simp)
    have hT8 : (l.drop 504).length = 8 := by rw [List.length_drop, H5.out]
    have HT8 := Lib.hid hT8
    clear hT8
    have HTK := Lib.hid (take_all (l.drop 504) 8 (by rw [HT8.out]; rfl))
    go_upto_region 12 with fail
    go_cut [10] (fun s10 wx => ∃ b10, s10 = .pointer (some ⟨b10, 0, none⟩) ∧ Blk wx b10 [.int .i64 (Sp.num (l.drop 504)), .int .i64 ro, .int .i64 ne, .int .i64 co] 103 ∧ Keep [] wc wx)
    case first =>
      have W10 := fun (W : World) => Blk.new' W [.int .i64 0, .int .i64 0, .int .i64 0, .int .i64 0] 103
      have HW := Lib.hid W10
      clear W10
      have KO : Keep [] wc.drew (wc.alloc (.cells #[.int .i64 0, .int .i64 0, .int .i64 0, .int .i64 0] 103)).drew := (Keep.refl [] wc.drew).alloc (.cells #[.int .i64 0, .int .i64 0, .int .i64 0, .int .i64 0] 103)
      go_region_held3 (fun w' => w'.cell? ⟨b8, 1, none⟩ = some (.int .i64 ro) ∧ w'.cell? ⟨b8, 2, none⟩ = some (.int .i64 ne) ∧ w'.cell? ⟨b8, 3, none⟩ = some (.int .i64 co)) (first | (refine ⟨?_, ?_, ?_⟩ <;> with_reducible assumption) | go_keep)
        (first
          | (go_at_call 22; (with_reducible refine (read_any _ (l.drop 504) wc.drew rdT (by rw [HT8.out]; omega)).mono ?_); rintro e wd ⟨bs, us, rfl, hs, kd, sge, _⟩; have A2 := A1.moved kd; have hb8d := A2.blk.lt; have n10 : b8 ≠ wd.heap.size := (by omega); have n10' : ¬ (wd.heap.size = b8) := (by omega); have f1 : wd.cell? ⟨b8, 1, none⟩ = some (.int .i64 ro) := A2.blk.cell 1; have f2 : wd.cell? ⟨b8, 2, none⟩ = some (.int .i64 ne) := A2.blk.cell 2; have f3 : wd.cell? ⟨b8, 3, none⟩ = some (.int .i64 co) := A2.blk.cell 3)
          | (go_at_call 22; (with_reducible refine (read_any _ (l.drop 504) (wc.alloc (.cells #[.int .i64 0, .int .i64 0, .int .i64 0, .int .i64 0] 103)).drew (rdT.keep KO (by simp)) (by rw [HT8.out]; omega)).mono ?_); rintro e wd ⟨bs, us, rfl, hs, kd', sge', _⟩; have kd := KO.trans kd' (by simp); obtain ⟨sge, n10b⟩ := late_sizes sge'; have B10d := (HW.out wc).drew.keep kd' (by simp); have A2 := A1.moved kd; have n10 : b8 ≠ wc.heap.size := (by omega); have n10' : ¬ (wc.heap.size = b8) := (by omega); have hb8d := A2.blk.lt; have f1 : wd.cell? ⟨b8, 1, none⟩ = some (.int .i64 ro) := A2.blk.cell 1; have f2 : wd.cell? ⟨b8, 2, none⟩ = some (.int .i64 ne) := A2.blk.cell 2; have f3 : wd.cell? ⟨b8, 3, none⟩ = some (.int .i64 co) := A2.blk.cell 3)
          | (have b10t := B10d; go_at_call 75; (with_reducible refine (num_any bs _ _ wd hs).mono ?_); have KW := Keep.refl [] wd; rintro e we ⟨rfl, o⟩; obtain ⟨ut, _, ke, _⟩ := o; obtain ⟨⟨g1, g2, g3⟩, hb8e, KE⟩ := A.late kd KW sge ke; have B10 := B10d.keep ke (by rw [List.mem_singleton]; omega); have z0 := B10.cell 0; have z1 := B10.cell 1; have z2 := B10.cell 2; have z3 := B10.cell 3; simp only [List.getElem?_cons_zero, List.getElem?_cons_succ] at z0 z1 z2 z3; have y0 := B10.free 0; have y1 := B10.free 1; have y2 := B10.free 2; have y3 := B10.free 3)
          | (go_at_call 75; (with_reducible refine (num_any bs _ _ wd hs).mono ?_); have KW := Keep.refl [] wd; rintro e we ⟨rfl, o⟩; obtain ⟨ut, _, ke, _⟩ := o; obtain ⟨⟨g1, g2, g3⟩, hb8e, KE⟩ := A.late kd KW sge ke; have hbs := hs.blk.lt)
          | (go_at_call 75; (with_reducible refine (num_any bs _ _ _ (hs.keep ((Keep.refl [] wd).alloc (.cells #[.int .i64 0, .int .i64 0, .int .i64 0, .int .i64 0] 103)) (by simp) (by simp))).mono ?_); have KW := (Keep.refl [] wd).alloc (.cells #[.int .i64 0, .int .i64 0, .int .i64 0, .int .i64 0] 103); rintro e we ⟨rfl, o⟩; obtain ⟨ut, _, ke, _⟩ := o; obtain ⟨⟨g1, g2, g3⟩, hb8e, KE⟩ := A.late kd KW sge ke; have hbs := hs.blk.lt; have B10 := (HW.out wd).keep ke (by simp; omega); have z0 := B10.cell 0; have z1 := B10.cell 1; have z2 := B10.cell 2; have z3 := B10.cell 3; simp only [List.getElem?_cons_zero, List.getElem?_cons_succ] at z0 z1 z2 z3; have y0 := B10.free 0; have y1 := B10.free 1; have y2 := B10.free 2; have y3 := B10.free 3))
      all_goals
        go_simp
        go_wp2
        go_meet
        case rel =>
          have kds : wc.heap.size ≤ wd.heap.size := kd.size
          refine ⟨_, rfl, ?_, ?_⟩
          · rw [HTK.out]
            first | (with_reducible exact Blk.new' _ _ _) | (with_reducible exact B10.set4 _ _ _ _)
          · first | (with_reducible exact KE.alloc _) | exact (((KE.setCell (Or.inr kds) _).setCell (Or.inr kds) _).setCell (Or.inr kds) _).setCell (Or.inr kds) _ | exact (((KE.setCell (Or.inr (Nat.le_refl _)) _).setCell (Or.inr (Nat.le_refl _)) _).setCell (Or.inr (Nat.le_refl _)) _).setCell (Or.inr (Nat.le_refl _)) _
    case rest =>
      obtain ⟨b10, rfl, B10, K10⟩ := hcut
      have KW := KC.trans K10 (by simp)
      have A2 := A.moved K10
      have B7 := B7c.keep K10 (by simp)
      have B2 := B2c.keep K10 (by simp)
      have hb27 := B2'.lt
      have hw7 := K.size
      clear A A1 B7c B2c KC K10 rdT e1 e2 e3 hb8 hc504 B7' B2' K
      have OE := Lib.hid (of_eq (sn := sn) (r7 := r7) (n := n) (is := is) H5.out HR0.out HR1.out HG.out HR2.out HIS.out HRO.out HR3.out HNE.out HR4.out HCO.out HR5.out HN.out HR6.out (HP.out ▸ HSN.out) (HP.out ▸ HR7.out))
      have t0 := B10.cell 0
      have t1 := B10.cell 1
      have t2 := B10.cell 2
      have t3 := B10.cell 3
      have s0 := B7.cell 0
      have s1 := B7.cell 1
      have s2 := B7.cell 2
      have s3 := B7.cell 3
      have q0 := A2.blk.cell 0
      have q1 := A2.blk.cell 1
      have q2 := A2.blk.cell 2
      have q3 := A2.blk.cell 3
      have q4 := A2.blk.cell 4
      have p0 := B2.cell 0
      have p1 := B2.cell 1
      have p2 := B2.cell 2
      have p3 := B2.cell 3
      have p4 := B2.cell 4
      simp only [List.getElem?_cons_zero, List.getElem?_cons_succ] at t0 t1 t2 t3 s0 s1 s2 s3 q0 q1 q2 q3 q4 p0 p1 p2 p3 p4
      have f0 := B2.free 0
      have f1 := B2.free 1
      have f2 := B2.free 2
      have f3 := B2.free 3
      have f4 := B2.free 4
      obtain ⟨g2, hg2⟩ : ∃ g, g = Sp.num (l.drop 504) := ⟨_, rfl⟩
      rw [← hg2] at t0 OE
      have NH := neqHead wc g2 ro ne co g ro ne co
      clear hg2 B10 B7
      have KB2' : ∀ W, Keep [b2] W W → ∀ (x0 x1 x2 x3 x4 : Value), Keep [b2] W (((((W.setCell ⟨b2, 0, none⟩ x0).setCell ⟨b2, 1, none⟩ x1).setCell ⟨b2, 2, none⟩ x2).setCell ⟨b2, 3, none⟩ x3).setCell ⟨b2, 4, none⟩ x4) := fun W k x0 x1 x2 x3 x4 =>
        ((((k.setCell (Or.inl (by simp)) _).setCell (Or.inl (by simp)) _).setCell (Or.inl (by simp)) _).setCell (Or.inl (by simp)) _).setCell (Or.inl (by simp)) _
      have KB2 : ∀ W, Keep [] w W → ∀ (x0 x1 x2 x3 x4 : Value), Keep [] w (((((W.setCell ⟨b2, 0, none⟩ x0).setCell ⟨b2, 1, none⟩ x1).setCell ⟨b2, 2, none⟩ x2).setCell ⟨b2, 3, none⟩ x3).setCell ⟨b2, 4, none⟩ x4) := fun W k x0 x1 x2 x3 x4 =>
        ((((k.setCell (Or.inr (Nat.le_of_eq HB2.out.symm)) _).setCell (Or.inr (Nat.le_of_eq HB2.out.symm)) _).setCell (Or.inr (Nat.le_of_eq HB2.out.symm)) _).setCell (Or.inr (Nat.le_of_eq HB2.out.symm)) _).setCell (Or.inr (Nat.le_of_eq HB2.out.symm)) _
      have R0 : ∀ x0, (wc.setCell ⟨b2, 0, none⟩ x0).cell? ⟨b2, 0, none⟩ = some x0 := fun x0 => (B2.set 0 x0).cell 0
      have R1 : ∀ x0 x1, ((wc.setCell ⟨b2, 0, none⟩ x0).setCell ⟨b2, 1, none⟩ x1).cell? ⟨b2, 1, none⟩ = some x1 := fun x0 x1 => ((B2.set 0 x0).set 1 x1).cell 1
      have R2 : ∀ x0 x1 x2, (((wc.setCell ⟨b2, 0, none⟩ x0).setCell ⟨b2, 1, none⟩ x1).setCell ⟨b2, 2, none⟩ x2).cell? ⟨b2, 2, none⟩ = some x2 := fun x0 x1 x2 => (((B2.set 0 x0).set 1 x1).set 2 x2).cell 2
      have R3 : ∀ x0 x1 x2 x3, ((((wc.setCell ⟨b2, 0, none⟩ x0).setCell ⟨b2, 1, none⟩ x1).setCell ⟨b2, 2, none⟩ x2).setCell ⟨b2, 3, none⟩ x3).cell? ⟨b2, 3, none⟩ = some x3 := fun x0 x1 x2 x3 => ((((B2.set 0 x0).set 1 x1).set 2 x2).set 3 x3).cell 3
      have R4 : ∀ x0 x1 x2 x3 x4, (((((wc.setCell ⟨b2, 0, none⟩ x0).setCell ⟨b2, 1, none⟩ x1).setCell ⟨b2, 2, none⟩ x2).setCell ⟨b2, 3, none⟩ x3).setCell ⟨b2, 4, none⟩ x4).cell? ⟨b2, 4, none⟩ = some x4 := fun x0 x1 x2 x3 x4 => (((((B2.set 0 x0).set 1 x1).set 2 x2).set 3 x3).set 4 x4).cell 4
      cases is with
      | false =>
        go_wp2
        refine bodyPost_ret (v := .tuple #[.agg #[.int .i64 0, .int .i64 0, .int .i64 0, .int .i64 0, .slice none 0 0], .int .i64 12]) ?_ rfl (of_no (by rw [OE.out]; simp) rfl ?_)
        · simp [results, Try.results55, go_sem, R0, R1, R2, R3, R4]
        · exact KB2 _ KW _ _ _ _ _
      | true =>
        cases hbad : r7.bad with
        | true =>
          go_wp2_with (go_at_call 24; refine (wrong_any br _ _ _ A2.isr).mono ?_; rintro e w' ⟨rfl, rfl⟩; rw [hbad])
          refine bodyPost_ret (v := .tuple #[.agg #[.int .i64 0, .int .i64 0, .int .i64 0, .int .i64 0, .slice none 0 0], .int .i64 12]) ?_ rfl (of_no (by rw [OE.out, hbad]; simp) rfl ?_)
          · simp [results, Try.results55, go_sem, R0, R1, R2, R3, R4]
          · exact KB2 _ KW _ _ _ _ _
        | false =>
          cases hno : r7.noughts with
          | false =>
            go_wp2_with (first | (go_at_call 24; refine (wrong_any br _ _ _ A2.isr).mono ?_; rintro e w' ⟨rfl, rfl⟩; rw [hbad]) | (go_at_call 37; refine (noughts_any br _ _ _ A2.isr).mono ?_; rintro e w' ⟨rfl, rfl⟩; rw [hno]))
            refine bodyPost_ret (v := .tuple #[.agg #[.int .i64 0, .int .i64 0, .int .i64 0, .int .i64 0, .slice none 0 0], .int .i64 12]) ?_ rfl (of_no (by rw [OE.out, hno]; simp) rfl ?_)
            · simp [results, Try.results55, go_sem, R0, R1, R2, R3, R4]
            · exact KB2 _ KW _ _ _ _ _
          | true =>
            by_cases hgg : g2 = g
            · subst hgg
              have hself : (g2 == g2) = true := beq_self_eq_true g2
              have NH2 := NH
              simp only [beq_self_eq_true, Bool.and_true, Bool.not_true] at NH2
              have SV : SuV wc (.agg #[.int .i64 g2, .int .i64 ro, .int .i64 ne, .int .i64 co, .slice avs sn.length cvs]) ⟨g2, ro, ne, co, sn⟩ := ⟨avs, cvs, rfl, RdV.ofOwn A2.own, Nat.le_trans hsnl (by omega)⟩
              have B8w := A2.blk
              clear NH hself
              cases hR : Sp.right ⟨g2, ro, ne, co, sn⟩ with
              | false =>
                go_wp2_with (first | (go_at_call 24; refine (wrong_any br _ _ _ A2.isr).mono ?_; rintro e w' ⟨rfl, rfl⟩; rw [hbad]) | (go_at_call 37; refine (noughts_any br _ _ _ A2.isr).mono ?_; rintro e w' ⟨rfl, rfl⟩; rw [hno]) | (go_at_call 58; refine (right_any _ _ _ SV).mono ?_; rintro e wz ⟨rfl, kz⟩; rw [hR]; have B2z := B2.keep kz (by simp); clear p0 p1 p2 p3 p4 f0 f1 f2 f3 f4 R0 R1 R2 R3 R4 q0 q1 q2 q3 q4; have p0 := B2z.cell 0; have p1 := B2z.cell 1; have p2 := B2z.cell 2; have p3 := B2z.cell 3; have p4 := B2z.cell 4; simp only [List.getElem?_cons_zero, List.getElem?_cons_succ] at p0 p1 p2 p3 p4; have f0 := B2z.free 0; have f1 := B2z.free 1; have f2 := B2z.free 2; have f3 := B2z.free 3; have f4 := B2z.free 4; have R0 : ∀ x0, (wz.setCell ⟨b2, 0, none⟩ x0).cell? ⟨b2, 0, none⟩ = some x0 := fun x0 => (B2z.set 0 x0).cell 0; have R1 : ∀ x0 x1, ((wz.setCell ⟨b2, 0, none⟩ x0).setCell ⟨b2, 1, none⟩ x1).cell? ⟨b2, 1, none⟩ = some x1 := fun x0 x1 => ((B2z.set 0 x0).set 1 x1).cell 1; have R2 : ∀ x0 x1 x2, (((wz.setCell ⟨b2, 0, none⟩ x0).setCell ⟨b2, 1, none⟩ x1).setCell ⟨b2, 2, none⟩ x2).cell? ⟨b2, 2, none⟩ = some x2 := fun x0 x1 x2 => (((B2z.set 0 x0).set 1 x1).set 2 x2).cell 2; have R3 : ∀ x0 x1 x2 x3, ((((wz.setCell ⟨b2, 0, none⟩ x0).setCell ⟨b2, 1, none⟩ x1).setCell ⟨b2, 2, none⟩ x2).setCell ⟨b2, 3, none⟩ x3).cell? ⟨b2, 3, none⟩ = some x3 := fun x0 x1 x2 x3 => ((((B2z.set 0 x0).set 1 x1).set 2 x2).set 3 x3).cell 3; have R4 : ∀ x0 x1 x2 x3 x4, (((((wz.setCell ⟨b2, 0, none⟩ x0).setCell ⟨b2, 1, none⟩ x1).setCell ⟨b2, 2, none⟩ x2).setCell ⟨b2, 3, none⟩ x3).setCell ⟨b2, 4, none⟩ x4).cell? ⟨b2, 4, none⟩ = some x4 := fun x0 x1 x2 x3 x4 => (((((B2z.set 0 x0).set 1 x1).set 2 x2).set 3 x3).set 4 x4).cell 4))
                refine bodyPost_ret (v := .tuple #[.agg #[.int .i64 0, .int .i64 0, .int .i64 0, .int .i64 0, .slice none 0 0], .int .i64 12]) ?_ rfl (of_no (by rw [OE.out, hR]; simp) rfl ?_)
                · simp [results, Try.results55, go_sem, R0, R1, R2, R3, R4]
                · exact KB2 _ (KW.trans kz (by simp)) _ _ _ _ _
              | true =>
                go_wp2_with (first | (go_at_call 24; refine (wrong_any br _ _ _ A2.isr).mono ?_; rintro e w' ⟨rfl, rfl⟩; rw [hbad]) | (go_at_call 37; refine (noughts_any br _ _ _ A2.isr).mono ?_; rintro e w' ⟨rfl, rfl⟩; rw [hno]) | (go_at_call 58; refine (right_any _ _ _ SV).mono ?_; rintro e wz ⟨rfl, kz⟩; rw [hR]; have B2z := B2.keep kz (by simp); have B8z := B8w.keep kz (by simp); clear p0 p1 p2 p3 p4 f0 f1 f2 f3 f4 R0 R1 R2 R3 R4 q0 q1 q2 q3 q4; have p0 := B2z.cell 0; have p1 := B2z.cell 1; have p2 := B2z.cell 2; have p3 := B2z.cell 3; have p4 := B2z.cell 4; simp only [List.getElem?_cons_zero, List.getElem?_cons_succ] at p0 p1 p2 p3 p4; have f0 := B2z.free 0; have f1 := B2z.free 1; have f2 := B2z.free 2; have f3 := B2z.free 3; have f4 := B2z.free 4; have R0 : ∀ x0, (wz.setCell ⟨b2, 0, none⟩ x0).cell? ⟨b2, 0, none⟩ = some x0 := fun x0 => (B2z.set 0 x0).cell 0; have R1 : ∀ x0 x1, ((wz.setCell ⟨b2, 0, none⟩ x0).setCell ⟨b2, 1, none⟩ x1).cell? ⟨b2, 1, none⟩ = some x1 := fun x0 x1 => ((B2z.set 0 x0).set 1 x1).cell 1; have R2 : ∀ x0 x1 x2, (((wz.setCell ⟨b2, 0, none⟩ x0).setCell ⟨b2, 1, none⟩ x1).setCell ⟨b2, 2, none⟩ x2).cell? ⟨b2, 2, none⟩ = some x2 := fun x0 x1 x2 => (((B2z.set 0 x0).set 1 x1).set 2 x2).cell 2; have R3 : ∀ x0 x1 x2 x3, ((((wz.setCell ⟨b2, 0, none⟩ x0).setCell ⟨b2, 1, none⟩ x1).setCell ⟨b2, 2, none⟩ x2).setCell ⟨b2, 3, none⟩ x3).cell? ⟨b2, 3, none⟩ = some x3 := fun x0 x1 x2 x3 => ((((B2z.set 0 x0).set 1 x1).set 2 x2).set 3 x3).cell 3; have R4 : ∀ x0 x1 x2 x3 x4, (((((wz.setCell ⟨b2, 0, none⟩ x0).setCell ⟨b2, 1, none⟩ x1).setCell ⟨b2, 2, none⟩ x2).setCell ⟨b2, 3, none⟩ x3).setCell ⟨b2, 4, none⟩ x4).cell? ⟨b2, 4, none⟩ = some x4 := fun x0 x1 x2 x3 x4 => (((((B2z.set 0 x0).set 1 x1).set 2 x2).set 3 x3).set 4 x4).cell 4; have q0 := B8z.cell 0; have q1 := B8z.cell 1; have q2 := B8z.cell 2; have q3 := B8z.cell 3; have q4 := B8z.cell 4; simp only [List.getElem?_cons_zero, List.getElem?_cons_succ] at q0 q1 q2 q3 q4))
                have KZ := KW.trans kz (by simp)
                refine bodyPost_ret (v := .tuple #[.agg #[.int .i64 g2, .int .i64 ro, .int .i64 ne, .int .i64 co, .slice avs sn.length cvs], .int .i64 0]) ?_ rfl (of_yes (s := ⟨g2, ro, ne, co, sn⟩) (by rw [OE.out]; simp [hbad, hno, hR]) rfl ?_ ?_)
                · simp [results, Try.results55, go_sem, R0, R1, R2, R3, R4]
                · exact ⟨avs, cvs, rfl, (RdV.ofOwn A2.own).keep ((kz.mono (G := [b2]) (by simp)).trans (KB2' _ (Keep.refl _ _) _ _ _ _ _) (fun x hx => Or.inl hx)) (fun x hx hb => by rw [List.mem_singleton] at hb; have := A2.row x (fpOf_rowOf hx); omega), Nat.le_trans hsnl (by omega), fun x hx => Nat.le_trans hw7 (A2.row x (fpOf_rowOf hx))⟩
                · exact KB2 _ KZ _ _ _ _ _
            · have hgb : (g2 == g) = false := by rw [beq_eq_false_iff_ne]; exact hgg
              have HGG := Lib.hid hgg
              clear hgg
              rw [hgb] at NH
              simp only [Bool.false_and, Bool.not_false] at NH
              go_wp2_with (first | (go_at_call 24; refine (wrong_any br _ _ _ A2.isr).mono ?_; rintro e w' ⟨rfl, rfl⟩; rw [hbad]) | (go_at_call 37; refine (noughts_any br _ _ _ A2.isr).mono ?_; rintro e w' ⟨rfl, rfl⟩; rw [hno]))
              refine bodyPost_ret (v := .tuple #[.agg #[.int .i64 0, .int .i64 0, .int .i64 0, .int .i64 0, .slice none 0 0], .int .i64 12]) ?_ rfl (of_no (by rw [OE.out]; simp [HGG.out]) rfl ?_)
              · simp [results, Try.results55, go_sem, R0, R1, R2, R3, R4]
              · exact KB2 _ KW _ _ _ _ _
end Go.Proofs.Yteogkgjajhdhjaa
