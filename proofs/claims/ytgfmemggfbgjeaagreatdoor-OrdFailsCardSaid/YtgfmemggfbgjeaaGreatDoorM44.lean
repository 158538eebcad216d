/-
  rialtohelp.Class of an Errno. Conditions: none. rialtolaw12: known. Conditions: none.
-/
import Derived.Test.YtgfmemggfbgjeaaGreatDoorM41
import Derived.Test.YtgfmemggfbgjeaaGreatDoorM42
import Derived.Test.YtgfmemggfbgjeaaGreatDoorM43
import Derived.Test.YtgfmemggfbgjeaaGreatDoorM40
import Derived.Test.YtgfmemggfbgjeaaGreatDoorM38
namespace Go.Proofs.YtgfmemggfbgjeaaGreatDoor
open Go.RowKit Go.Extern.Stop Go.Stop Go.Extern Go.Lib

abbrev twoW (w : World) (TT : TypeId) (t : Addr) : World := (w.alloc (.cells #[.pointer (some t)] TT)).alloc (.cells #[.pointer (some ⟨2, TT, none⟩), .pointer (some ⟨w.heap.size, 0, none⟩), .int .u64 150] 125)

theorem tw_as_en {w : World} (n : Int) (hg : Handle w) (t : Addr) :
    Calls Tryz.prog 37 #[.iface 65 (.int .i64 n), .iface 96 (.pointer (some t))] w fun e w' => e = .returned (.bool false) ∧ Same (fun _ => False) w w' := by
  have hs := ((Same.refl (fun _ => False) w).alloc (.cells #[.pointer (some t)] 96)).alloc (.cells #[.pointer (some ⟨2, 96, none⟩), .pointer (some ⟨w.heap.size, 0, none⟩), .int .u64 150] 125)
  refine (tw_head _ _ t w hg (Q := fun b w' => b = false ∧ Same (fun _ => False) w w') ((tw_miss_en _ _ _ _).mono fun e w' ⟨b, e1, e2, e3⟩ => ⟨b, e1, e2, hs.trans e3 (fun _ _ h => h)⟩)).mono ?_
  rintro e w' ⟨b, rfl, rfl, h⟩
  exact ⟨rfl, h⟩

theorem fa_as_en {w : World} (n : Int) (hg : Handle w) (t : Addr) :
    Calls Tryz.prog 37 #[.iface 65 (.int .i64 n), .iface 98 (.pointer (some t))] w fun e w' => e = .returned (.bool false) ∧ Same (fun _ => False) w w' := by
  have hs := ((Same.refl (fun _ => False) w).alloc (.cells #[.pointer (some t)] 98)).alloc (.cells #[.pointer (some ⟨2, 98, none⟩), .pointer (some ⟨w.heap.size, 0, none⟩), .int .u64 150] 125)
  refine (fa_head _ _ t w hg (Q := fun b w' => b = false ∧ Same (fun _ => False) w w') ((fa_miss_en _ _ _ _).mono fun e w' ⟨b, e1, e2, e3⟩ => ⟨b, e1, e2, hs.trans e3 (fun _ _ h => h)⟩)).mono ?_
  rintro e w' ⟨b, rfl, rfl, h⟩
  exact ⟨rfl, h⟩

theorem en_as_en {w : World} (n : Int) (tb : Nat) {old : Value} (hg : Handle w) (ht : One w tb old 65) :
    Calls Tryz.prog 37 #[.iface 65 (.int .i64 n), .iface 99 (.pointer (some ⟨tb, 0, none⟩))] w fun e w' => e = .returned (.bool true) ∧ Same (fun k => k = tb) w w' ∧ One w' tb (.int .i64 n) 65 := by
  have hs := ((Same.refl (fun k => k = tb) w).alloc (.cells #[.pointer (some ⟨tb, 0, none⟩)] 99)).alloc (.cells #[.pointer (some ⟨2, 99, none⟩), .pointer (some ⟨w.heap.size, 0, none⟩), .int .u64 150] 125)
  have ht2 := (ht.alloc (.cells #[.pointer (some ⟨tb, 0, none⟩)] 99)).alloc (.cells #[.pointer (some ⟨2, 99, none⟩), .pointer (some ⟨w.heap.size, 0, none⟩), .int .u64 150] 125)
  have ha := (One.new w (.pointer (some ⟨tb, 0, none⟩)) 99).alloc (.cells #[.pointer (some ⟨2, 99, none⟩), .pointer (some ⟨w.heap.size, 0, none⟩), .int .u64 150] 125)
  refine (en_head _ _ ⟨tb, 0, none⟩ w hg (Q := fun b w' => b = true ∧ Same (fun k => k = tb) w w' ∧ One w' tb (.int .i64 n) 65) ?_).mono ?_
  · exact (en_hit n _ _ tb old _ ha ht2).mono fun e w' ⟨b, e1, e2, e3, e4⟩ => ⟨b, e1, e2, hs.trans e3 (fun _ _ h => h), e4⟩
  · rintro e w' ⟨b, rfl, rfl, h⟩
    exact ⟨rfl, h⟩

theorem class_errno {w : World} (n : Int) (hg : Handle w) :
    Calls Tryz.prog 13 #[.iface 65 (.int .i64 n)] w fun e w' => e = .returned (.int .i64 n) ∧ Same (fun _ => False) w w' := by
  have hs1 := (Same.refl (fun _ => False) w).alloc (.cells #[.pointer none] 92)
  have hg1 := hg.alloc (.cells #[.pointer none] 92)
  have HTW := Lib.hid (tw_as_en n hg1 ⟨w.heap.size, 0, none⟩)
  have HG1 := Lib.hid hg1; have HS1 := Lib.hid hs1
  clear hs1 hg1 hg
  go_enter Tryz.func13, Tryz.ntmps13
  go_wp2_with fail
  refine HTW.out.mono ?_
  rintro e w1 ⟨rfl, hs⟩
  have hs2 := (HS1.out.trans hs (fun _ _ h => h)).alloc (.cells #[.pointer none] 97)
  have hg2 := (HG1.out.same hs id).alloc (.cells #[.pointer none] 97)
  have HF := Lib.hid (fa_as_en n hg2 ⟨w1.heap.size, 0, none⟩)
  have HS2 := Lib.hid hs2; have HG2 := Lib.hid hg2
  clear hs hs2 hg2 HTW HG1 HS1
  go_wp2_with fail
  refine HF.out.mono ?_
  rintro e w2 ⟨rfl, hs⟩
  have hs3 := (HS2.out.trans hs (fun _ _ h => h)).alloc (.cells #[.int .i64 0] 65)
  have hg3 := (HG2.out.same hs id).alloc (.cells #[.int .i64 0] 65)
  have hsz := (HS2.out.trans hs (fun _ _ h => h)).size
  have HE := Lib.hid (en_as_en n w2.heap.size hg3 (One.new w2 (.int .i64 0) 65))
  have HS3 := Lib.hid hs3
  clear hs hs3 hg3 HF HS2 HG2
  go_wp2_with fail
  refine HE.out.mono ?_
  rintro e w3 ⟨rfl, hs, ho⟩
  have hs4 := HS3.out.trans hs (fun k hk he => by omega)
  have hc := ho.cell
  have HS4 := Lib.hid hs4
  clear hs hs4 ho HE HS3
  go_wp2_with fail
  go_ret
  exact ⟨rfl, HS4.out⟩

end Go.Proofs.YtgfmemggfbgjeaaGreatDoor

namespace Go.Proofs.YtgfmemggfbgjeaaGreatDoor
open Go.RowKit Go.Extern.Stop Go.Stop Go.Extern Go.Lib
set_option maxRecDepth 1000000

theorem cmpR_zero_num (e : En) (m b : Int) (h : e.kv = [numV m]) : cmpR 0 e.kv [numV b] = - cmpI m b := by rw [h, cmpR_zero]

theorem log2_one' : Nat.log2 1 = 0 := by rw [Nat.log2_def]; rfl

theorem pair_one {e : En} {p : En → Prop} : [e].Pairwise (fun x y => p x → p y) := List.pairwise_singleton _ _
theorem pair_two {e f : En} {p : En → Prop} (h : p e → p f) : [e, f].Pairwise (fun x y => p x → p y) := by
  rw [List.pairwise_cons]
  exact ⟨fun y hy => by simp at hy; subst hy; exact h, List.pairwise_singleton _ _⟩

/-- A comparator out of the hooks. -/
theorem hooks_cmp {w : World} {B : Nat} {hv mp : Value} (hh : HooksAt w B hv mp) {n : Nat} (hn : n < 3) : ∃ ve g cap bm bn, hv = .agg #[ve, .slice (some ⟨g, 0, none⟩) 3 cap] ∧ 3 ≤ cap ∧ w.cell? ⟨g, n, none⟩ = some (coF bm bn) ∧ g < w.heap.size ∧ One w bm mp 49 ∧ One w bn (.int .i64 n) 3 := by
  obtain ⟨ve, vc, rfl, _, bs, hl, ho, hb⟩ := hh
  rcases ho.2 with ⟨_, h0⟩ | ⟨g, cap, cur, rfl, _, hg, hnc, _⟩
  · omega
  · have hp : bs[n]? = some (bs[n]'(by omega)) := List.getElem?_eq_getElem _
    obtain ⟨a1, a2, _, _⟩ := hb n _ hp
    have hx := (ownsRow_read ho).cell (j := n) (x := coF (bs[n]'(by omega)).1 (bs[n]'(by omega)).2) (by rw [List.getElem?_map, hp]; rfl)
    rw [Nat.zero_add] at hx
    exact ⟨ve, g, cap, _, _, rfl, hnc, hx, lt_of_block hg, a1, a2⟩

set_option maxHeartbeats 16000000 in
theorem known_any {w : World} (hg : Handle w) : Calls Tryz.prog 8 #[] w fun e w' => e = .returned (.bool true) ∧ Same (fun _ => False) w w' := by
  have HH := Lib.hid (hooks_any (mp := .pointer none) (Or.inl rfl) w)
  have HG := Lib.hid hg
  have m0 : ∀ W, MAt W (.pointer none) 0 0 0 0 := fun _ => Or.inl rfl
  have M0 := Lib.hid m0
  have hbf : ∀ k, ¬ Blk (.pointer none) k := fun k h => by cases h
  have BF := Lib.hid hbf
  clear hg m0 hbf
  go_enter Tryz.func8, Tryz.ntmps8
  go_wp2_with fail
  refine HH.out.mono ?_
  rintro r w1 ⟨hv, rfl, hs1, hh⟩
  obtain ⟨ve, g, cap, bm, bn, rfl, hcap, c0, gl, obm, obn⟩ := hooks_cmp hh (n := 0) (by omega)
  replace obn : One w1 bn (.int .i64 0) 3 := obn
  have HN := Lib.hid (new_calm (uq := false) obm obn (M0.out w1) ⟨by omega, by omega⟩ (Or.inl rfl))
  have HS1 := Lib.hid hs1
  have hfd : ∀ w : World, (Instr.field 31 (.agg #[ve, .slice (some ⟨g, 0, none⟩) 3 cap]) 1).run Tryz.prog w = .ok (.slice (some ⟨g, 0, none⟩) 3 cap) w := fun _ => by kernel_rfl
  clear hs1 hh obm obn
  go_wp2_with fail
  refine HN.out.mono ?_
  rintro r w2 ⟨x, t, rfl, hO2, _, hs2⟩
  have HO2 := Lib.hid hO2; have HS2 := Lib.hid hs2
  have HV1 := Lib.hid (num_any (w := w2) (m := 1) (by omega) (by omega))
  clear hO2 hs2 c0 gl
  go_wp2_with fail
  refine HV1.out.mono ?_
  rintro r w3 ⟨v1, rfl, ho3, hk3, hs3⟩
  have hO3 := HO2.out.kept (M0.out w2) (hs3.weaken (fun _ _ h => h.elim))
  have htl : w1.heap.size ≤ t := hO3.tree.1
  have HI1 := Lib.hid (insert_plain (rid := 1) hO3 (M0.out w3) (hk3 _ _ _ _ _ (M0.out w2)) (fun k hk => by have e1 := HS2.out.size; have e2 := hs3.size; show w1.heap.size ≤ k; omega) (by simp) (by omega) List.Pairwise.nil)
  have HS3 := Lib.hid hs3
  obtain ⟨v1o, v1c, rfl⟩ := readV_len (hk3 _ _ _ _ _ (M0.out w2)).rd
  clear ho3 hk3 hs3 hO3
  go_wp2_with fail
  refine HI1.out.mono ?_
  rintro r w4 ⟨_, _, hs4, hend⟩
  rcases hend with ⟨y, hy, _⟩ | ⟨i, e1, d1, hi, _, _, hkv1, hid1, hd1, rfl, hO4⟩
  · cases hy
  · obtain rfl : i = 0 := by simpa using hi
    simp only [List.take_nil, List.drop_nil, List.nil_append] at hO4
    have HO4 := Lib.hid hO4; have HS4 := Lib.hid hs4; have HK1 := Lib.hid hkv1; have HID1 := Lib.hid hid1
    have HV2 := Lib.hid (num_any (w := w4) (m := 2) (by omega) (by omega))
    clear hO4 hs4 hkv1 hid1
    go_wp2_with fail
    refine HV2.out.mono ?_
    rintro r w5 ⟨v2, rfl, ho5, hk5, hs5⟩
    have hO5 := HO4.out.kept (M0.out w4) (hs5.weaken (fun _ _ h => h.elim))
    have hd4 : d1 ≤ 3 := by simpa [log2_one'] using hd1
    have HI2 := Lib.hid (insert_plain (rid := 2) hO5 (M0.out w5) (hk5 _ _ _ _ _ (M0.out w4)) (fun k hk => by have e1 := HS2.out.size; have e2 := HS3.out.size; have e3 := HS4.out.size; have e4 := hs5.size; show w1.heap.size ≤ k; omega) (by simp) (by omega) pair_one)
    have HS5 := Lib.hid hs5
    obtain ⟨v2o, v2c, rfl⟩ := readV_len (hk5 _ _ _ _ _ (M0.out w4)).rd
    clear ho5 hk5 hs5 hO5
    go_wp2_with fail
    refine HI2.out.mono ?_
    rintro r w6 ⟨_, _, hs6, hend⟩
    have c12 : cmpR 0 e1.kv [numV 2] = 1 := by rw [HK1.out, cmpR_zero]; decide
    rcases hend with ⟨y, hy, _, hy2, _⟩ | ⟨i, e2, d2, hi, f1, f2, hkv2, hid2, hd2, rfl, hO6⟩
    · simp only [List.mem_singleton] at hy
      subst hy
      rw [c12] at hy2
      omega
    · obtain rfl : i = 0 := by
        rcases Nat.eq_zero_or_pos i with h | h
        · exact h
        · have hi1 : i = 1 := by simp at hi; omega
          subst hi1
          have := f1 e1 (by simp)
          unfold rankC at this
          rw [c12] at this
          simp at this
      simp only [List.take_zero, List.drop_zero, List.nil_append] at hO6
      have HO6 := Lib.hid hO6; have HS6 := Lib.hid hs6; have HK2 := Lib.hid hkv2; have HID2 := Lib.hid hid2; have HC12 := Lib.hid c12
      have HV3 := Lib.hid (num_any (w := w6) (m := 2) (by omega) (by omega))
      clear hO6 hs6 hkv2 hid2 f1 f2 c12 hd2
      go_wp2_with fail
      refine HV3.out.mono ?_
      rintro r w7 ⟨v3, rfl, ho7, hk7, hs7⟩
      have hO7 := HO6.out.kept (M0.out w6) (hs7.weaken (fun _ _ h => h.elim))
      have c22 : cmpR 0 e2.kv [numV 2] = 0 := by rw [HK2.out, cmpR_zero]; decide
      have HF := Lib.hid (find_calm hO7 (M0.out w7) (hk7 _ _ _ _ _ (M0.out w6)) (by simp) (pair_two (fun _ => by rw [HC12.out]; omega)) (pair_two (fun h => by rw [HC12.out]; omega)))
      have HS7 := Lib.hid hs7; have HC22 := Lib.hid c22
      obtain ⟨v3o, v3c, rfl⟩ := readV_len (hk7 _ _ _ _ _ (M0.out w6)).rd
      clear ho7 hk7 hs7 hO7 c22
      go_wp2_with fail
      refine HF.out.mono ?_
      rintro r w8 ⟨i, k, _, rfl, hi, hk, f1, f2, f3, f4, hs8, _⟩
      obtain rfl : i = 0 := by
        rcases Nat.eq_zero_or_pos i with h | h
        · exact h
        · obtain ⟨j, rfl⟩ : ∃ j, i = j + 1 := ⟨i - 1, by omega⟩
          have := f1 e2 (by simp)
          rw [HC22.out] at this
          omega
      obtain rfl : k = 1 := by
        match k, hk, f3, f4 with
        | 0, _, _, f4 =>
          have := f4 e2 (by simp)
          rw [HC22.out] at this
          omega
        | 1, _, _, _ => rfl
        | k + 2, _, f3, _ =>
          have := f3 e1 (by simp)
          rw [HC12.out] at this
          omega
      have HS8 := Lib.hid (hs8.weaken (F' := fun _ => False) (fun k _ h => BF.out k h))
      have HV4 := Lib.hid (num_any (w := w8) (m := 5) (by omega) (by omega))
      clear hs8 f1 f2 f3 f4
      have HO7 := Lib.hid (HO6.out.kept (M0.out w6) (HS7.out.weaken (fun _ _ h => h.elim)))
      have c25 : cmpR 0 e2.kv [numV 5] = 1 := by rw [HK2.out, cmpR_zero]; decide
      have c15 : cmpR 0 e1.kv [numV 5] = 1 := by rw [HK1.out, cmpR_zero]; decide
      have HC25 := Lib.hid c25; have HC15 := Lib.hid c15
      clear c25 c15
      go_wp2_with fail
      refine HV4.out.mono ?_
      rintro r w9 ⟨v4, rfl, ho9, hk9, hs9⟩
      have hO9 := HO7.out.kept (M0.out w7) ((HS8.out.trans hs9 (fun _ _ h => h)).weaken (fun _ _ h => h.elim))
      have HE := Lib.hid (erase_gone (rid := 2) hO9 (M0.out w9) (hk9 _ _ _ _ _ (M0.out w8)) (by simp) (pair_two (fun _ => by unfold rankC; rw [HC15.out]; simp)) (fun y hy h => by
        simp only [List.mem_cons, List.not_mem_nil, or_false] at hy
        rcases hy with rfl | rfl
        · rw [HC25.out] at h; omega
        · rw [HC15.out] at h; omega))
      have HS9 := Lib.hid hs9
      obtain ⟨v4o, v4c, rfl⟩ := readV_len (hk9 _ _ _ _ _ (M0.out w8)).rd
      clear ho9 hk9 hs9 hO9
      go_wp2_with fail
      refine HE.out.mono ?_
      rintro r w10 ⟨rfl, hs10, _⟩
      have HS10 := Lib.hid (hs10.weaken (F' := fun _ => False) (fun k _ h => BF.out k h))
      clear hs10
      have hsT : Same (fun k => w.heap.size ≤ k) w w10 := by
        have g1 := HS1.out.size; have g2 := HS2.out.size; have g3 := HS3.out.size; have g4 := HS4.out.size; have g5 := HS5.out.size; have g6 := HS6.out.size
        have t4 : w1.heap.size ≤ t := HO2.out.tree.1
        have q1 : ∀ {a b : World}, Same (fun _ => False) a b → Same (fun k => w.heap.size ≤ k) a b := fun h => h.weaken (fun _ _ h => h.elim)
        have q2 : ∀ {a b : World}, Same (fun k => Blk (.pointer none) k ∨ k = t) a b → Same (fun k => w.heap.size ≤ k) a b := fun h => h.weaken (fun k _ h => h.elim (fun h => (BF.out k h).elim) (fun h => by omega))
        exact (((((((((q1 HS1.out).trans (q1 HS2.out) (fun _ _ h => h)).trans (q1 HS3.out) (fun _ _ h => h)).trans (q2 HS4.out) (fun _ _ h => h)).trans (q1 HS5.out) (fun _ _ h => h)).trans (q2 HS6.out) (fun _ _ h => h)).trans (q1 HS7.out) (fun _ _ h => h)).trans (q1 HS8.out) (fun _ _ h => h)).trans (q1 HS9.out) (fun _ _ h => h)).trans (q1 HS10.out) (fun _ _ h => h)
      have hsF : Same (fun _ => False) w w10 := hsT.weaken (fun k hk h => by omega)
      have HCL := Lib.hid (class_errno (w := w10) 71 (HG.out.same hsF id))
      have HSF := Lib.hid hsF
      clear hsT hsF
      go_wp2_with fail
      refine HCL.out.mono ?_
      rintro r w11 ⟨rfl, hs11⟩
      have HS11 := Lib.hid (HSF.out.trans hs11 (fun _ _ h => h))
      clear hs11
      go_wp2_with fail
      go_ret
      exact ⟨rfl, HS11.out⟩

end Go.Proofs.YtgfmemggfbgjeaaGreatDoor
