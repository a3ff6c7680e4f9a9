/-
  Package model: replaces: may one node stand in another one's place? No condition but that both lie in memory.
-/
import Derived.Test.YtbmbjedpeepnfaaDoorMdJ
namespace Go.Proofs.YtbmbjedpeepnfaaDoor
open Go.RowKit Go.Maps

set_option maxRecDepth 100000 in
set_option maxHeartbeats 4000000 in
theorem replaces_any (ms : List NdM) (s : Md.St) (w : World) (h : Mem w ms s) (i j : Nat) (hi : i < s.length) (hj : j < s.length) :
    Calls Tryd.prog 74 #[.pointer (some ⟨blkOf ms i, 0, none⟩), .pointer (some ⟨blkOf ms j, 0, none⟩)] w fun e w' => e = .returned (.int .i64 (Md.replaces s i j)) ∧ w = w' := by
  obtain ⟨nd, hnd⟩ : ∃ nd, s[i]? = some nd := ⟨_, List.getElem?_eq_getElem hi⟩
  obtain ⟨od, hod⟩ : ∃ nd, s[j]? = some nd := ⟨_, List.getElem?_eq_getElem hj⟩
  obtain ⟨y, hy⟩ := h.both' hnd
  obtain ⟨z, hz⟩ := h.both' hod
  have hN := h.at' i y nd hy hnd
  have hO := h.at' j z od hz hod
  obtain ⟨bi, hbi⟩ : ∃ b, b = blkOf ms i := ⟨_, rfl⟩
  obtain ⟨bj, hbj⟩ : ∃ b, b = blkOf ms j := ⟨_, rfl⟩
  have hyb : y.b = bi := by rw [hbi]; unfold blkOf; rw [hy]
  have hzb : z.b = bj := by rw [hbj]; unfold blkOf; rw [hz]
  have Bi := hN.blk
  have Bj := hO.blk
  rw [hyb] at Bi
  rw [hzb] at Bj
  rw [← hbi, ← hbj]
  have c0 := Bj.cell 0
  simp only [List.getElem?_cons_zero] at c0
  have hR : Md.replaces s i j = if nd.dir = false ∧ od.dir = true then 5 else if nd.dir = true ∧ od.dir = false then 4 else if 0 < od.ents.length then 6 else 0 := by
    unfold Md.replaces Md.isDir Md.entsOf
    rw [hnd, hod]
  have HR := Lib.hid hR
  have qi := fun W => (dir_any bi y.m y.dv (.int .i64 nd.links) W)
  clear hR hbi hbj
  go_enter Tryd.func74, Tryd.ntmps74
  rcases hN.ents with ⟨em, ed, _⟩ | ⟨m, em, ed, _⟩
  · rcases hO.ents with ⟨fm, fd, fe⟩ | ⟨n, fm, fd, _⟩
    · rw [em] at Bi
      rw [fm] at Bj c0
      have ln := Maps.len_nil (w := w) Tryd.underlying80 3
      have hr : Md.replaces s i j = 0 := by rw [HR.out, ed, fd, fe]; rfl
      have HR2 := Lib.hid hr
      clear hr hN hO ed fd fe em fm hy hz hnd hod
      go_wp2_with (first
        | (go_at_call 63; refine (dir_any bi none _ _ _ Bi).mono ?_; rintro e w' ⟨rfl, rfl⟩)
        | (go_at_call 63; refine (dir_any bj none _ _ _ Bj).mono ?_; rintro e w' ⟨rfl, rfl⟩))
      go_ret
      exact ⟨by rw [HR2.out]; rfl, rfl⟩
    · rw [em] at Bi
      rw [fm] at Bj c0
      have hr : Md.replaces s i j = 5 := by rw [HR.out, ed, fd]; rfl
      have HR2 := Lib.hid hr
      clear hr hN hO ed fd em fm hy hz hnd hod
      go_wp2_with (first
        | (go_at_call 63; refine (dir_any bi none _ _ _ Bi).mono ?_; rintro e w' ⟨rfl, rfl⟩)
        | (go_at_call 63; refine (dir_any bj (some n) _ _ _ Bj).mono ?_; rintro e w' ⟨rfl, rfl⟩))
      go_ret
      exact ⟨by rw [HR2.out]; rfl, rfl⟩
  · rcases hO.ents with ⟨fm, fd, fe⟩ | ⟨n, fm, fd, hn⟩
    · rw [em] at Bi
      rw [fm] at Bj c0
      have hr : Md.replaces s i j = 4 := by rw [HR.out, ed, fd]; rfl
      have HR2 := Lib.hid hr
      clear hr hN hO ed fd fe em fm hy hz hnd hod
      go_wp2_with (first
        | (go_at_call 63; refine (dir_any bi (some m) _ _ _ Bi).mono ?_; rintro e w' ⟨rfl, rfl⟩)
        | (go_at_call 63; refine (dir_any bj none _ _ _ Bj).mono ?_; rintro e w' ⟨rfl, rfl⟩))
      go_ret
      exact ⟨by rw [HR2.out]; rfl, rfl⟩
    · rw [em] at Bi
      rw [fm] at Bj c0
      have ln := hn.len 3
      have hbl : (bents (blkOf ms) od.ents).length = od.ents.length := by unfold bents; rw [List.length_map]
      rw [hbl] at ln
      obtain ⟨c, hc⟩ : ∃ c, c = od.ents.length := ⟨_, rfl⟩
      rw [← hc] at ln
      by_cases h0 : c = 0
      · have hr : Md.replaces s i j = 0 := by rw [HR.out, ed, fd, ← hc, h0]; rfl
        have HR2 := Lib.hid hr
        subst h0
        clear hr hN hO ed fd em fm hy hz hnd hod hc hbl hn
        go_wp2_with (first
          | (go_at_call 63; refine (dir_any bi (some m) _ _ _ Bi).mono ?_; rintro e w' ⟨rfl, rfl⟩)
          | (go_at_call 63; refine (dir_any bj (some n) _ _ _ Bj).mono ?_; rintro e w' ⟨rfl, rfl⟩))
        go_ret
        exact ⟨by rw [HR2.out]; rfl, rfl⟩
      · have hcI : (0 : Int) < (c : Int) := by omega
        have hr : Md.replaces s i j = 6 := by rw [HR.out, ed, fd, ← hc]; simp; omega
        have HR2 := Lib.hid hr
        clear hr hN hO ed fd em fm hy hz hnd hod hc hbl hn h0
        go_wp2_with (first
          | (go_at_call 63; refine (dir_any bi (some m) _ _ _ Bi).mono ?_; rintro e w' ⟨rfl, rfl⟩)
          | (go_at_call 63; refine (dir_any bj (some n) _ _ _ Bj).mono ?_; rintro e w' ⟨rfl, rfl⟩))
        go_ret
        exact ⟨by rw [HR2.out]; rfl, rfl⟩
end Go.Proofs.YtbmbjedpeepnfaaDoor
