/-
  Package model: Do: what an op answers and leaves. No condition but that the op was cut, and that the nodes lie in memory.
-/
import Derived.Test.YtbmbjedpeepnfaaDoorMdAA
import Derived.Test.YtbmbjedpeepnfaaDoorMdZ
import Derived.Test.YtbmbjedpeepnfaaDoorMdB
import Derived.Test.YtbmbjedpeepnfaaDoorMdL
import Derived.Test.YtbmbjedpeepnfaaDoorMdO
import Derived.Test.YtbmbjedpeepnfaaDoorMdQ
import Derived.Test.YtbmbjedpeepnfaaDoorMdR
import Derived.Test.YtbmbjedpeepnfaaDoorMdV
import Derived.Test.YtbmbjedpeepnfaaDoorMdY
namespace Go.Proofs.YtbmbjedpeepnfaaDoor
open Go.RowKit Go.Shelf

set_option maxRecDepth 100000 in
set_option maxHeartbeats 8000000 in
theorem do_any (mb : Nat) (ms : List NdM) (s : Md.St) (o : Md.Op) (w : World) (h : IsM w mb ms s) (c : Nat) (g : Md.Good c s) (hc : c < 100000) (ok : OpOk o) (T : Tabs w) :
    Calls Tryd.prog 22 #[.pointer (some ⟨mb, 0, none⟩), .agg (opL o).toArray] w fun e w' => DoOut mb ms (Md.step s o) w w' e := by
  obtain ⟨w0, hw0⟩ : ∃ W, W = ((w.alloc (.cells #[.int .i64 o.kind, .string o.path, .string o.to', .int .i64 o.off, .int .i64 o.n, .string o.data] 36)).alloc (.cells #[.int .i64 0, .string ⟨#[]⟩, .slice none 0 0, .bool false, .int .i64 0, .int .i64 0] 33)).alloc (.cells #[.func (.func 40) #[] #[], .func (.func 41) #[] #[]] 67) := ⟨_, rfl⟩
  obtain ⟨b3, hb3⟩ : ∃ b, b = w.heap.size := ⟨_, rfl⟩
  obtain ⟨b4, hb4⟩ : ∃ b, b = w.heap.size + 1 := ⟨_, rfl⟩
  obtain ⟨b5, hb5⟩ : ∃ b, b = w.heap.size + 1 + 1 := ⟨_, rfl⟩
  have K0 : Keep [] w w0 := by rw [hw0]; exact (((Keep.refl _ _).alloc _).alloc _).alloc _
  have BO : Blk w0 b3 [.int .i64 o.kind, .string o.path, .string o.to', .int .i64 o.off, .int .i64 o.n, .string o.data] 36 := by rw [hw0, hb3]; exact ((Blk.new' _ _ _).alloc _).alloc _
  have B4 : Blk w0 b4 rep0 33 := by
    have := (Blk.new' (w.alloc (.cells #[.int .i64 o.kind, .string o.path, .string o.to', .int .i64 o.off, .int .i64 o.n, .string o.data] 36)) rep0 33).alloc (.cells #[.func (.func 40) #[] #[], .func (.func 41) #[] #[]] 67)
    rw [hw0, hb4]
    simpa using this
  have B5 : Blk w0 b5 [.func (.func 40) #[] #[], .func (.func 41) #[] #[]] 67 := by
    have := Blk.new' ((w.alloc (.cells #[.int .i64 o.kind, .string o.path, .string o.to', .int .i64 o.off, .int .i64 o.n, .string o.data] 36)).alloc (.cells #[.int .i64 0, .string ⟨#[]⟩, .slice none 0 0, .bool false, .int .i64 0, .int .i64 0] 33)) [.func (.func 40) #[] #[], .func (.func 41) #[] #[]] 67
    rw [hw0, hb5]
    simpa using this
  have h4w : w.heap.size ≤ b4 := by omega
  have HW := Lib.hid hw0
  have HB3 := Lib.hid hb3
  have HB4 := Lib.hid hb4
  have HB5 := Lib.hid hb5
  clear hw0 hb3 hb4 hb5
  simp only [opL]
  go_enter Tryd.func22, Tryd.ntmps22
  go_wp2_with fail
  rw [← HW.out, ← HB5.out, ← HB4.out, ← HB3.out]
  have HR := Lib.hid (And.intro BO (And.intro B4 (And.intro B5 K0)))
  clear BO B4 B5 K0
  go_loopw [13] (fun i wr => ∃ k : Nat, i = .int .i64 k ∧ k ≤ 2 ∧ Hid (1 ≤ k → Md.paths o = 0) ∧ Hid (2 ≤ k → Md.numbers o = 0) ∧ Keep [] w0 wr) (fun i _ => 2 - (intOf i).toNat)
  case atStart => exact ⟨0, rfl, by omega, Lib.hid (fun h => absurd h (by omega)), Lib.hid (fun h => absurd h (by omega)), Keep.refl _ _⟩
  case round =>
    obtain ⟨k, rfl, hk, hP, hN, K⟩ := hrel
    obtain ⟨BO0, B40, B50, K0⟩ := HR.out
    have KW := K0.trans K (by simp)
    have BO := BO0.keep K (by simp)
    have B4 := B40.keep K (by simp)
    have B5 := B50.keep K (by simp)
    have o0 := BO.cell 0
    have o1 := BO.cell 1
    have o2 := BO.cell 2
    have o3 := BO.cell 3
    have o4 := BO.cell 4
    have o5 := BO.cell 5
    simp only [List.getElem?_cons_zero, List.getElem?_cons_succ] at o0 o1 o2 o3 o4 o5
    have TW := T.keep KW (by simp)
    have HB4' := Lib.hid B4
    have HBO' := Lib.hid BO
    clear BO0 B40 B50 BO B4
    by_cases hk2 : k = 2
    · subst hk2
      have hp := hP.out (by omega)
      have hn := hN.out (by omega)
      have hMr := h.keep KW (by simp) (by simp)
      have h4r : b4 < wr.heap.size := HB4'.out.lt
      clear hP hN B5 hk
      by_cases hk1 : o.kind = 1
      · have hkd := hk1
        obtain ⟨r, hr⟩ : ∃ r, r = Md.stat s o := ⟨_, rfl⟩
        have cS := stat_any mb ms s o wr hMr g.ok ok TW (Md.there_ok g.ok.leads g.ok.pos o.path).lt
        rw [← hr] at cS
        have cS := cS.mono (fun _ _ e => TellOut.tells e)
        have hf : Md.step s o = (s, r) := by rw [hr]; simp [Md.step, hp, hn, hkd]
        have HF := Lib.hid hf
        have bk1 : (o.kind == 1) = true := by rw [beq_iff_eq]; exact hkd
        obtain ⟨n, hnl⟩ : ∃ n, n = r.names.length := ⟨_, rfl⟩
        have HNL := Lib.hid hnl
        have HT := Lib.hid (And.intro hp hn)
        clear hf hr hkd hk1 hnl hp hn hMr TW
        go_wp2_with (go_at_call 42; refine cS.mono ?_; rintro e w1 ⟨ao, cp, rfl, hrow, k1⟩
                     have K1 := KW.trans k1 (by simp)
                     have B41 := HB4'.out.keep k1 (by simp)
                     obtain ⟨⟨p0, p1, p2, p3, p4, p5⟩, f0, f1, f2, f3, f4, f5⟩ := rep_cells B41
                     obtain ⟨R0, R1, R2, R3, R4, R5⟩ := rep_reads B41 rfl
                     clear B41
                     unfold repV
                     rw [← HNL.out])
        refine bodyPost_ret (v := repV ao cp r) ?_ rfl ?_
        · rw [repV, ← HNL.out]; simp [results, Tryd.results22, go_sem, R0, R1, R2, R3, R4, R5]
        · rw [HF.out]
          refine do_tells h K1 h4w (ownsRow_base_a hrow KW.size) (fun e => ?_) _ _ _ _ _ _
          rcases hrow.2 with ⟨h1, _⟩ | ⟨gg, cap, cur, h1, hg, _⟩
          · rw [h1] at e; simp [rowOf, Value.ownBlock] at e
          · rw [h1] at e; simp [rowOf, Value.ownBlock] at e; omega
      have bk1 : (o.kind == 1) = false := by rw [beq_eq_false_iff_ne]; exact hk1
      by_cases hk2 : o.kind = 2
      · have hkd := hk2
        obtain ⟨r, hr⟩ : ∃ r, r = Md.list s o := ⟨_, rfl⟩
        have cS := list_any mb ms s o wr hMr g.ok ok TW (g.bd.sz (by omega)) (Md.there_ok g.ok.leads g.ok.pos o.path).lt
        rw [← hr] at cS
        have hf : Md.step s o = (s, r) := by rw [hr]; simp [Md.step, hp, hn, hkd]
        have HF := Lib.hid hf
        have bk2 : (o.kind == 2) = true := by rw [beq_iff_eq]; exact hkd
        obtain ⟨n, hnl⟩ : ∃ n, n = r.names.length := ⟨_, rfl⟩
        have HNL := Lib.hid hnl
        have HT := Lib.hid (And.intro hp hn)
        clear hf hr hkd hk2 hnl hp hn hMr TW
        go_wp2_with (go_at_call 43; refine cS.mono ?_; rintro e w1 ⟨ao, cp, rfl, hrow, k1⟩
                     have K1 := KW.trans k1 (by simp)
                     have B41 := HB4'.out.keep k1 (by simp)
                     obtain ⟨⟨p0, p1, p2, p3, p4, p5⟩, f0, f1, f2, f3, f4, f5⟩ := rep_cells B41
                     obtain ⟨R0, R1, R2, R3, R4, R5⟩ := rep_reads B41 rfl
                     clear B41
                     unfold repV
                     rw [← HNL.out])
        refine bodyPost_ret (v := repV ao cp r) ?_ rfl ?_
        · rw [repV, ← HNL.out]; simp [results, Tryd.results22, go_sem, R0, R1, R2, R3, R4, R5]
        · rw [HF.out]
          refine do_tells h K1 h4w (ownsRow_base_a hrow KW.size) (fun e => ?_) _ _ _ _ _ _
          rcases hrow.2 with ⟨h1, _⟩ | ⟨gg, cap, cur, h1, hg, _⟩
          · rw [h1] at e; simp [rowOf, Value.ownBlock] at e
          · rw [h1] at e; simp [rowOf, Value.ownBlock] at e; omega
      have bk2 : (o.kind == 2) = false := by rw [beq_eq_false_iff_ne]; exact hk2
      by_cases hk3 : o.kind = 3
      · have hkd := hk3
        obtain ⟨r, hr⟩ : ∃ r, r = Md.read s o := ⟨_, rfl⟩
        have cS := read_any mb ms s o wr hMr g.ok ok TW (Md.numbers_read hn hkd).1 (Md.numbers_read hn hkd).2.1 (fun i nd e => by have := (g.bd i nd e).data; omega)
        rw [← hr] at cS
        have cS := cS.mono (fun _ _ e => TellOut.tells e)
        have hf : Md.step s o = (s, r) := by rw [hr]; simp [Md.step, hp, hn, hkd]
        have HF := Lib.hid hf
        have bk3 : (o.kind == 3) = true := by rw [beq_iff_eq]; exact hkd
        obtain ⟨n, hnl⟩ : ∃ n, n = r.names.length := ⟨_, rfl⟩
        have HNL := Lib.hid hnl
        have HT := Lib.hid (And.intro hp hn)
        clear hf hr hkd hk3 hnl hp hn hMr TW
        go_wp2_with (go_at_call 44; refine cS.mono ?_; rintro e w1 ⟨ao, cp, rfl, hrow, k1⟩
                     have K1 := KW.trans k1 (by simp)
                     have B41 := HB4'.out.keep k1 (by simp)
                     obtain ⟨⟨p0, p1, p2, p3, p4, p5⟩, f0, f1, f2, f3, f4, f5⟩ := rep_cells B41
                     obtain ⟨R0, R1, R2, R3, R4, R5⟩ := rep_reads B41 rfl
                     clear B41
                     unfold repV
                     rw [← HNL.out])
        refine bodyPost_ret (v := repV ao cp r) ?_ rfl ?_
        · rw [repV, ← HNL.out]; simp [results, Tryd.results22, go_sem, R0, R1, R2, R3, R4, R5]
        · rw [HF.out]
          refine do_tells h K1 h4w (ownsRow_base_a hrow KW.size) (fun e => ?_) _ _ _ _ _ _
          rcases hrow.2 with ⟨h1, _⟩ | ⟨gg, cap, cur, h1, hg, _⟩
          · rw [h1] at e; simp [rowOf, Value.ownBlock] at e
          · rw [h1] at e; simp [rowOf, Value.ownBlock] at e; omega
      have bk3 : (o.kind == 3) = false := by rw [beq_eq_false_iff_ne]; exact hk3
      have hmm := @run_makeMap Tryd.prog
      obtain ⟨w1, w2, w3, w4, w5, w6, w7, w8, r1, r2, r3, r4, r5, r6, r7, r8, hown, K8⟩ := does_made wr mb
      have KW8 := KW.trans K8 (by simp)
      have BO8 := HBO'.out.keep K8 (by simp)
      have x0 := BO8.cell 0
      have x1 := BO8.cell 1
      have x2 := BO8.cell 2
      have x3 := BO8.cell 3
      have x4 := BO8.cell 4
      have x5 := BO8.cell 5
      simp only [List.getElem?_cons_zero, List.getElem?_cons_succ] at x0 x1 x2 x3 x4 x5
      have hM8 := h.keep KW8 (by simp) (by simp)
      have T8 := T.keep KW8 (by simp)
      have B48 := HB4'.out.keep K8 (by simp)
      have HB48 := Lib.hid B48
      have h48 : b4 < w8.heap.size := B48.lt
      have h4f : b4 ∉ fps ms := fun e => by have := h.mem.lt b4 e; omega
      clear BO8 B48 hMr TW
      go_upto_region 16 with fail
      clear r1 r2 r3 r4 r5 r6 r7 r8 hmm bk1 bk2 bk3 o0 o1 o2 o3 o4 o5
      by_cases hk4 : o.kind = 4
      · have hkd := hk4
        obtain ⟨r, hr⟩ : ∃ r, r = Md.write s o := ⟨_, rfl⟩
        have cS := write_any mb ms s o w8 hM8 g.ok ok T8 c g.bd (Md.numbers_write hn hkd).1 (Md.numbers_write hn hkd).2.1
        rw [← hr] at cS
        have hf : Md.step s o = (r.1, Md.er r.2) := by rw [hr]; simp [Md.step, hp, hn, hkd]
        have HF := Lib.hid hf
        have hlook := does_find hown o.kind (by omega) (by omega) 45 (by rw [hkd]; rfl) (by rw [hkd]; rfl)
        obtain ⟨rs, r2v⟩ := r
        clear hf hr hkd hk4 hp hn hk1 hk2 hk3 hown hM8 T8
        go_wp2_with (go_at_call 45; refine cS.mono ?_; rintro e wz hD
                     obtain ⟨ms', rfl, hMz, kz, hfz⟩ := hD
                     have HD := Lib.hid (show DoneOut mb ms (rs, r2v) w8 wz (.returned (.int .i64 r2v)) from ⟨ms', rfl, hMz, kz, hfz⟩)
                     have B4z := HB48.out.keep kz h4f
                     obtain ⟨⟨p0, p1, p2, p3, p4, p5⟩, f0, f1, f2, f3, f4, f5⟩ := rep_cells B4z
                     obtain ⟨R0, R1, R2, R3, R4, R5⟩ := rep_reads B4z rfl
                     clear B4z hMz kz hfz)
        refine bodyPost_ret (v := repV none 0 (Md.er r2v)) ?_ rfl ?_
        · simp [repV, Md.er, results, Tryd.results22, go_sem, R0, R1, R2, R3, R4, R5]
        · rw [HF.out]
          exact (do_done h KW8 h4w h48 HD.out _ _ _ _ _ _).2.2
      by_cases hk11 : o.kind = 11
      · have hkd := hk11
        obtain ⟨r, hr⟩ : ∃ r, r = Md.truncate s o := ⟨_, rfl⟩
        have cS := truncate_any mb ms s o w8 hM8 g.ok ok T8 c g.bd (Md.numbers_truncate hn hkd).1 (Md.numbers_truncate hn hkd).2
        rw [← hr] at cS
        have hf : Md.step s o = (r.1, Md.er r.2) := by rw [hr]; simp [Md.step, hp, hn, hkd]
        have HF := Lib.hid hf
        have hlook := does_find hown o.kind (by omega) (by omega) 46 (by rw [hkd]; rfl) (by rw [hkd]; rfl)
        obtain ⟨rs, r2v⟩ := r
        clear hf hr hkd hk11 hp hn hk1 hk2 hk3 hown hM8 T8
        go_wp2_with (go_at_call 46; refine cS.mono ?_; rintro e wz hD
                     obtain ⟨ms', rfl, hMz, kz, hfz⟩ := hD
                     have HD := Lib.hid (show DoneOut mb ms (rs, r2v) w8 wz (.returned (.int .i64 r2v)) from ⟨ms', rfl, hMz, kz, hfz⟩)
                     have B4z := HB48.out.keep kz h4f
                     obtain ⟨⟨p0, p1, p2, p3, p4, p5⟩, f0, f1, f2, f3, f4, f5⟩ := rep_cells B4z
                     obtain ⟨R0, R1, R2, R3, R4, R5⟩ := rep_reads B4z rfl
                     clear B4z hMz kz hfz)
        refine bodyPost_ret (v := repV none 0 (Md.er r2v)) ?_ rfl ?_
        · simp [repV, Md.er, results, Tryd.results22, go_sem, R0, R1, R2, R3, R4, R5]
        · rw [HF.out]
          exact (do_done h KW8 h4w h48 HD.out _ _ _ _ _ _).2.2
      by_cases hk5 : o.kind = 5
      · have hkd := hk5
        obtain ⟨r, hr⟩ : ∃ r, r = Md.create s o := ⟨_, rfl⟩
        have cS := create_any mb ms s o w8 hM8 g.ok ok T8 (g.bd.sz (by omega))
        rw [← hr] at cS
        have hf : Md.step s o = (r.1, Md.er r.2) := by rw [hr]; simp [Md.step, hp, hn, hkd]
        have HF := Lib.hid hf
        have hlook := does_find hown o.kind (by omega) (by omega) 47 (by rw [hkd]; rfl) (by rw [hkd]; rfl)
        obtain ⟨rs, r2v⟩ := r
        clear hf hr hkd hk5 hp hn hk1 hk2 hk3 hown hM8 T8
        go_wp2_with (go_at_call 47; refine cS.mono ?_; rintro e wz hD
                     obtain ⟨ms', rfl, hMz, kz, hfz⟩ := hD
                     have HD := Lib.hid (show DoneOut mb ms (rs, r2v) w8 wz (.returned (.int .i64 r2v)) from ⟨ms', rfl, hMz, kz, hfz⟩)
                     have B4z := HB48.out.keep kz h4f
                     obtain ⟨⟨p0, p1, p2, p3, p4, p5⟩, f0, f1, f2, f3, f4, f5⟩ := rep_cells B4z
                     obtain ⟨R0, R1, R2, R3, R4, R5⟩ := rep_reads B4z rfl
                     clear B4z hMz kz hfz)
        refine bodyPost_ret (v := repV none 0 (Md.er r2v)) ?_ rfl ?_
        · simp [repV, Md.er, results, Tryd.results22, go_sem, R0, R1, R2, R3, R4, R5]
        · rw [HF.out]
          exact (do_done h KW8 h4w h48 HD.out _ _ _ _ _ _).2.2
      by_cases hk6 : o.kind = 6
      · have hkd := hk6
        obtain ⟨r, hr⟩ : ∃ r, r = Md.create s o := ⟨_, rfl⟩
        have cS := create_any mb ms s o w8 hM8 g.ok ok T8 (g.bd.sz (by omega))
        rw [← hr] at cS
        have hf : Md.step s o = (r.1, Md.er r.2) := by rw [hr]; simp [Md.step, hp, hn, hkd]
        have HF := Lib.hid hf
        have hlook := does_find hown o.kind (by omega) (by omega) 47 (by rw [hkd]; rfl) (by rw [hkd]; rfl)
        obtain ⟨rs, r2v⟩ := r
        clear hf hr hkd hk6 hp hn hk1 hk2 hk3 hown hM8 T8
        go_wp2_with (go_at_call 47; refine cS.mono ?_; rintro e wz hD
                     obtain ⟨ms', rfl, hMz, kz, hfz⟩ := hD
                     have HD := Lib.hid (show DoneOut mb ms (rs, r2v) w8 wz (.returned (.int .i64 r2v)) from ⟨ms', rfl, hMz, kz, hfz⟩)
                     have B4z := HB48.out.keep kz h4f
                     obtain ⟨⟨p0, p1, p2, p3, p4, p5⟩, f0, f1, f2, f3, f4, f5⟩ := rep_cells B4z
                     obtain ⟨R0, R1, R2, R3, R4, R5⟩ := rep_reads B4z rfl
                     clear B4z hMz kz hfz)
        refine bodyPost_ret (v := repV none 0 (Md.er r2v)) ?_ rfl ?_
        · simp [repV, Md.er, results, Tryd.results22, go_sem, R0, R1, R2, R3, R4, R5]
        · rw [HF.out]
          exact (do_done h KW8 h4w h48 HD.out _ _ _ _ _ _).2.2
      by_cases hk7 : o.kind = 7
      · have hkd := hk7
        obtain ⟨r, hr⟩ : ∃ r, r = Md.unlink s o := ⟨_, rfl⟩
        have cS := unlink_any mb ms s o w8 hM8 g.ok ok T8 (g.bd.few (by omega))
        rw [← hr] at cS
        have hf : Md.step s o = (r.1, Md.er r.2) := by rw [hr]; simp [Md.step, hp, hn, hkd]
        have HF := Lib.hid hf
        have hlook := does_find hown o.kind (by omega) (by omega) 48 (by rw [hkd]; rfl) (by rw [hkd]; rfl)
        obtain ⟨rs, r2v⟩ := r
        clear hf hr hkd hk7 hp hn hk1 hk2 hk3 hown hM8 T8
        go_wp2_with (go_at_call 48; refine cS.mono ?_; rintro e wz hD
                     obtain ⟨ms', rfl, hMz, kz, hfz⟩ := hD
                     have HD := Lib.hid (show DoneOut mb ms (rs, r2v) w8 wz (.returned (.int .i64 r2v)) from ⟨ms', rfl, hMz, kz, hfz⟩)
                     have B4z := HB48.out.keep kz h4f
                     obtain ⟨⟨p0, p1, p2, p3, p4, p5⟩, f0, f1, f2, f3, f4, f5⟩ := rep_cells B4z
                     obtain ⟨R0, R1, R2, R3, R4, R5⟩ := rep_reads B4z rfl
                     clear B4z hMz kz hfz)
        refine bodyPost_ret (v := repV none 0 (Md.er r2v)) ?_ rfl ?_
        · simp [repV, Md.er, results, Tryd.results22, go_sem, R0, R1, R2, R3, R4, R5]
        · rw [HF.out]
          exact (do_done h KW8 h4w h48 HD.out _ _ _ _ _ _).2.2
      by_cases hk8 : o.kind = 8
      · have hkd := hk8
        obtain ⟨r, hr⟩ : ∃ r, r = Md.rmdir s o := ⟨_, rfl⟩
        have cS := rmdir_any mb ms s o w8 hM8 g.ok ok T8
        rw [← hr] at cS
        have hf : Md.step s o = (r.1, Md.er r.2) := by rw [hr]; simp [Md.step, hp, hn, hkd]
        have HF := Lib.hid hf
        have hlook := does_find hown o.kind (by omega) (by omega) 49 (by rw [hkd]; rfl) (by rw [hkd]; rfl)
        obtain ⟨rs, r2v⟩ := r
        clear hf hr hkd hk8 hp hn hk1 hk2 hk3 hown hM8 T8
        go_wp2_with (go_at_call 49; refine cS.mono ?_; rintro e wz hD
                     obtain ⟨ms', rfl, hMz, kz, hfz⟩ := hD
                     have HD := Lib.hid (show DoneOut mb ms (rs, r2v) w8 wz (.returned (.int .i64 r2v)) from ⟨ms', rfl, hMz, kz, hfz⟩)
                     have B4z := HB48.out.keep kz h4f
                     obtain ⟨⟨p0, p1, p2, p3, p4, p5⟩, f0, f1, f2, f3, f4, f5⟩ := rep_cells B4z
                     obtain ⟨R0, R1, R2, R3, R4, R5⟩ := rep_reads B4z rfl
                     clear B4z hMz kz hfz)
        refine bodyPost_ret (v := repV none 0 (Md.er r2v)) ?_ rfl ?_
        · simp [repV, Md.er, results, Tryd.results22, go_sem, R0, R1, R2, R3, R4, R5]
        · rw [HF.out]
          exact (do_done h KW8 h4w h48 HD.out _ _ _ _ _ _).2.2
      by_cases hk10 : o.kind = 10
      · have hkd := hk10
        obtain ⟨r, hr⟩ : ∃ r, r = Md.link s o := ⟨_, rfl⟩
        have cS := link_any mb ms s o w8 hM8 g.ok ok T8 (g.bd.few (by omega)) (g.bd.sz (by omega))
        rw [← hr] at cS
        have hf : Md.step s o = (r.1, Md.er r.2) := by rw [hr]; simp [Md.step, hp, hn, hkd]
        have HF := Lib.hid hf
        have hlook := does_find hown o.kind (by omega) (by omega) 50 (by rw [hkd]; rfl) (by rw [hkd]; rfl)
        obtain ⟨rs, r2v⟩ := r
        clear hf hr hkd hk10 hp hn hk1 hk2 hk3 hown hM8 T8
        go_wp2_with (go_at_call 50; refine cS.mono ?_; rintro e wz hD
                     obtain ⟨ms', rfl, hMz, kz, hfz⟩ := hD
                     have HD := Lib.hid (show DoneOut mb ms (rs, r2v) w8 wz (.returned (.int .i64 r2v)) from ⟨ms', rfl, hMz, kz, hfz⟩)
                     have B4z := HB48.out.keep kz h4f
                     obtain ⟨⟨p0, p1, p2, p3, p4, p5⟩, f0, f1, f2, f3, f4, f5⟩ := rep_cells B4z
                     obtain ⟨R0, R1, R2, R3, R4, R5⟩ := rep_reads B4z rfl
                     clear B4z hMz kz hfz)
        refine bodyPost_ret (v := repV none 0 (Md.er r2v)) ?_ rfl ?_
        · simp [repV, Md.er, results, Tryd.results22, go_sem, R0, R1, R2, R3, R4, R5]
        · rw [HF.out]
          exact (do_done h KW8 h4w h48 HD.out _ _ _ _ _ _).2.2
      by_cases hk9 : o.kind = 9
      · have hkd := hk9
        obtain ⟨r, hr⟩ : ∃ r, r = Md.rename s o := ⟨_, rfl⟩
        have cS := rename_any mb ms s o w8 hM8 g.ok ok T8 (g.bd.few (by omega)) (g.bd.sz (by omega)) hp hkd
        rw [← hr] at cS
        have hf : Md.step s o = (r.1, Md.er r.2) := by rw [hr]; simp [Md.step, hp, hn, hkd]
        have HF := Lib.hid hf
        have hlook := does_find hown o.kind (by omega) (by omega) 51 (by rw [hkd]; rfl) (by rw [hkd]; rfl)
        obtain ⟨rs, r2v⟩ := r
        clear hf hr hkd hk9 hp hn hk1 hk2 hk3 hown hM8 T8
        go_wp2_with (go_at_call 51; refine cS.mono ?_; rintro e wz hD
                     obtain ⟨ms', rfl, hMz, kz, hfz⟩ := hD
                     have HD := Lib.hid (show DoneOut mb ms (rs, r2v) w8 wz (.returned (.int .i64 r2v)) from ⟨ms', rfl, hMz, kz, hfz⟩)
                     have B4z := HB48.out.keep kz h4f
                     obtain ⟨⟨p0, p1, p2, p3, p4, p5⟩, f0, f1, f2, f3, f4, f5⟩ := rep_cells B4z
                     obtain ⟨R0, R1, R2, R3, R4, R5⟩ := rep_reads B4z rfl
                     clear B4z hMz kz hfz)
        refine bodyPost_ret (v := repV none 0 (Md.er r2v)) ?_ rfl ?_
        · simp [repV, Md.er, results, Tryd.results22, go_sem, R0, R1, R2, R3, R4, R5]
        · rw [HF.out]
          exact (do_done h KW8 h4w h48 HD.out _ _ _ _ _ _).2.2
      have hf : Md.step s o = (s, Md.er 1) := by simp [Md.step, hp, hn, hk1, hk2, hk3, hk4, hk11, hk5, hk6, hk7, hk8, hk10, hk9]
      have HF := Lib.hid hf
      have hlook := does_none hown o.kind ok.k0 ok.k1 ⟨hk4, hk11, hk5, hk6, hk7, hk8, hk10, hk9⟩
      obtain ⟨⟨p0, p1, p2, p3, p4, p5⟩, f0, f1, f2, f3, f4, f5⟩ := rep_cells HB48.out
      obtain ⟨R0, R1, R2, R3, R4, R5⟩ := rep_reads HB48.out rfl
      clear hf hp hn hk1 hk2 hk3 hk4 hk11 hk5 hk6 hk7 hk8 hk10 hk9 hown hM8 T8
      go_wp2
      refine bodyPost_ret (v := repV none 0 (Md.er 1)) ?_ rfl ?_
      · simp [repV, Md.er, results, Tryd.results22, go_sem, R0, R1, R2, R3, R4, R5]
      · rw [HF.out]
        exact do_err h KW8 h4w 1 _ _ _ _ _ _
    · rcases Nat.lt_or_ge k 1 with hk0 | hk1
      · have e0 : k = 0 := by omega
        subst e0
        have q0 := B5.cell 0
        simp only [List.getElem?_cons_zero] at q0
        clear B5 hk2 hk hk0
        have cP := paths_any o wr ok TW
        go_upto_region 5 with (go_at_call 40; refine cP.mono ?_; rintro e w1 ⟨rfl, k1⟩)
        obtain ⟨P, hPP⟩ : ∃ P, P = Md.paths o := ⟨_, rfl⟩
        rw [← hPP]
        have K1 := KW.trans k1 (by simp)
        by_cases hP0 : P = 0
        · subst hP0
          have HPP := Lib.hid hPP
          clear hPP
          go_wp2
          go_roundw
          case rel => exact ⟨1, by go_num, by omega, Lib.hid (fun _ => HPP.out.symm), Lib.hid (fun h => absurd h (by omega)), K.trans k1 (by simp)⟩
          case measure => simp [intOf]
        · have hb : (P == 0) = false := by rw [beq_eq_false_iff_ne]; exact hP0
          have hf : Md.step s o = (s, Md.er P) := by unfold Md.step; rw [if_pos (by rw [← hPP]; exact hP0), ← hPP]
          have HF := Lib.hid hf
          have B41 := HB4'.out.keep k1 (by simp)
          obtain ⟨⟨p0, p1, p2, p3, p4, p5⟩, f0, f1, f2, f3, f4, f5⟩ := rep_cells B41
          obtain ⟨R0, R1, R2, R3, R4, R5⟩ := rep_reads B41 rfl
          clear hf hPP hP0 B41
          go_wp2
          refine bodyPost_ret (v := repV none 0 (Md.er P)) ?_ rfl ?_
          · simp [repV, Md.er, results, Tryd.results22, go_sem, R0, R1, R2, R3, R4, R5]
          · rw [HF.out]
            exact do_err h K1 h4w P _ _ _ _ _ _
      · have e0 : k = 1 := by omega
        subst e0
        have q0 := B5.cell 1
        simp only [List.getElem?_cons_zero, List.getElem?_cons_succ] at q0
        clear B5 hk2 hk hk1
        have cN := numbers_any o wr ok
        go_upto_region 5 with (go_at_call 41; refine cN.mono ?_; rintro e w1 ⟨rfl, k1⟩)
        obtain ⟨P, hPP⟩ : ∃ P, P = Md.numbers o := ⟨_, rfl⟩
        rw [← hPP]
        have K1 := KW.trans k1 (by simp)
        by_cases hP0 : P = 0
        · subst hP0
          have HPP := Lib.hid hPP
          clear hPP
          go_wp2
          go_roundw
          case rel => exact ⟨2, by go_num, by omega, Lib.hid (fun _ => hP.out (by omega)), Lib.hid (fun _ => HPP.out.symm), K.trans k1 (by simp)⟩
          case measure => simp [intOf]
        · have hb : (P == 0) = false := by rw [beq_eq_false_iff_ne]; exact hP0
          have hf : Md.step s o = (s, Md.er P) := by unfold Md.step; rw [if_neg (by simp [hP.out (by omega)]), if_pos (by rw [← hPP]; exact hP0), ← hPP]
          have HF := Lib.hid hf
          have B41 := HB4'.out.keep k1 (by simp)
          obtain ⟨⟨p0, p1, p2, p3, p4, p5⟩, f0, f1, f2, f3, f4, f5⟩ := rep_cells B41
          obtain ⟨R0, R1, R2, R3, R4, R5⟩ := rep_reads B41 rfl
          clear hf hPP hP0 B41
          go_wp2
          refine bodyPost_ret (v := repV none 0 (Md.er P)) ?_ rfl ?_
          · simp [repV, Md.er, results, Tryd.results22, go_sem, R0, R1, R2, R3, R4, R5]
          · rw [HF.out]
            exact do_err h K1 h4w P _ _ _ _ _ _
end Go.Proofs.YtbmbjedpeepnfaaDoor
