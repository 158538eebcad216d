/-
  posidx: Move, Swap. Conditions: few elements, a small count of writes.
-/
import Derived.Test.YtelgbigpfiohfaaPosC
namespace Go.Proofs.Ytelgbigpfiohfaa
open Go.RowKit Go.Extern.Stop Go.Stop Go.Extern Go.Lib Go.Maps
set_option maxRecDepth 1000000

/-- A tree turned, nothing else: the index. -/
theorem ix_tree {T : TypeId} {w w1 w2 : World} {P : Nat → Prop} {x t mb N most : Nat} {L L' : List Int} {c : Int} (hx : P x) (hm : P mb) (hb : w.heap[x]? = some (.cells #[.pointer (some ⟨t, 0, none⟩), .map (some mb)] T (0, 0))) (hne : x ≠ mb) (hset : SetIs w mb L N) (hpt : P t ∧ t ≠ x ∧ t ≠ mb)
    (hs0 : Same (fun _ => False) w w1) (hs1 : Same (fun k => k = t) w1 w2) {d : Nat} (hd : d ≤ most) (ht : TreeIs w2 (fun k => P k ∧ k ≠ x ∧ k ≠ mb) t L' (c + d)) (hmem : ∀ z, z ∈ L' ↔ z ∈ L) (hn : L'.Nodup) (h64 : ∀ z ∈ L, I64 z) :
    IxGot T w w2 P x L' c N most := by
  have hs : Same (fun k => k = t) w w2 := (hs0.weaken (fun _ _ h => h.elim)).trans hs1 (fun _ _ h => h)
  obtain ⟨D, ho, hh⟩ := hset.keep hs (fun e => hpt.2.2 e.symm)
  exact ⟨⟨d, hd, t, mb, hx, hm, hs.obj hb (fun e => hpt.2.1 e.symm), hne, ⟨D, ho.mono (Nat.le_succ N), fun z => by rw [hh z, hmem z]⟩, ht, hn, fun z hz => h64 z ((hmem z).1 hz)⟩, hs.weaken (fun k _ e => by subst e; exact hpt.1)⟩

set_option maxHeartbeats 8000000 in
theorem pos_move {w : World} {P : Nat → Prop} {x u N : Nat} {L : List Int} {c y : Int} (h : IxAt 62 w P x L c N) (hP : ∀ k, w.heap.size ≤ k → P k) (hL : L.length ≤ 80000) (hc : 0 ≤ c ∧ c ≤ 500000000) (hy : y ∈ L) (hu : u < L.length) (hne : L.idxOf y ≠ u) :
    Calls Try.prog 11 #[.pointer (some ⟨x, 0, none⟩), .int .i64 y, .int .i64 u] w fun e w' => e = .returned (.tuple #[.int .i64 (L.idxOf y), .int .i64 0]) ∧ IxGot 62 w w' P x (movedTo L y u) c N (2 * Most L.length) := by
  have hlt : L.idxOf y < L.length := List.idxOf_lt_length_iff.2 hy
  have HP := Lib.hid (pos_place h (by omega) hy)
  have HIN := Lib.hid (fun (w' : World) (hs : Same (fun _ => False) w w') => pos_in_yes (i := (u : Int)) (h.keep hs (fun _ h => h.elim)) (by omega) (by omega))
  obtain ⟨t, mb, hx, hm, hb, hxm, hset, ht, hnd, h64⟩ := h
  obtain ⟨x0, x1, hxl⟩ := ix_cells hb
  have hpt := ht.1
  have hml := hset.lt
  have HE := Lib.hid (fun (w' : World) (hs : Same (fun _ => False) w w') => tree_erase (i := L.idxOf y) (ht.keep hs (fun _ h => h.elim)) (fun k hk => ⟨hP k (by have := hs.size; omega), by have := hs.size; omega, by have := hs.size; omega⟩) ⟨hc.1, by omega⟩ (by omega) hlt)
  have hMl : (L.take (L.idxOf y) ++ L.drop (L.idxOf y + 1)).length = L.length - 1 := by rw [List.length_append, List.length_take, List.length_drop]; omega
  have HI := Lib.hid (fun (w1 w2 : World) (hs : Same (fun _ => False) w w1) (hs2 : Same (fun k => k = t) w1 w2) (d hh : Nat) (hlow : Low L.length hh) (hd : d ≤ 3 * hh + 3) (ht2 : TreeIs w2 (fun k => P k ∧ k ≠ x ∧ k ≠ mb) t (L.take (L.idxOf y) ++ L.drop (L.idxOf y + 1)) (c + d)) =>
    tree_insert (v := y) (i := u) ht2 (fun k hk => ⟨hP k (by have := hs.size; have := hs2.size; omega), by have := hs.size; have := hs2.size; omega, by have := hs.size; have := hs2.size; omega⟩) ⟨by omega, by have := low_small hlow (by omega); omega⟩ (by omega) (by omega))
  have HB := Lib.hid hb; have HSET := Lib.hid hset
  have HMEM := Lib.hid (fun z => moved_mem u hnd hy z); have HND := Lib.hid (moved_nodup u hnd hy); have H64 := Lib.hid h64
  have HMD : Go.RowKit.Hid (movedTo L y u = (L.take (L.idxOf y) ++ L.drop (L.idxOf y + 1)).take u ++ y :: (L.take (L.idxOf y) ++ L.drop (L.idxOf y + 1)).drop u) := Lib.hid rfl
  have HMO := Lib.hid (show Most (L.length - 1) ≤ Most L.length from most_mono (by omega)); have HML := Lib.hid hMl
  generalize movedTo L y u = LM at *
  generalize L.take (L.idxOf y) ++ L.drop (L.idxOf y + 1) = M at *
  generalize L[L.idxOf y] = yy at *
  generalize L.idxOf y = p at *
  have hpu : ¬ ((p : Int) = (u : Int)) := by omega
  clear hb ht hset hnd h64 hP hy hMl
  go_enter Try.func11, Try.ntmps11
  go_wp2_with fail
  refine HP.out.mono ?_
  rintro e w1 ⟨rfl, hs⟩
  have HI2 := Lib.hid (HIN.out w1 hs); have HS := Lib.hid hs
  have y0 := (World.cell?_of_block (a := ⟨x, 0, none⟩) (hs.block x hxl id)).trans x0
  have hxl1 : x < w1.heap.size := by have := hs.size; omega
  have HE2 := Lib.hid (HE.out w1 hs)
  clear hs
  go_wp2_with fail
  refine HI2.out.mono ?_
  rintro e w2 ⟨rfl, rfl⟩
  go_wp2_with fail
  refine HE2.out.mono ?_
  rintro e w3 ⟨rfl, ⟨d, hh, hlow, hd, ht3⟩, hs3⟩
  have z0 := (World.cell?_of_block (a := ⟨x, 0, none⟩) (hs3.block x hxl1 (fun e => hpt.2.1 e.symm))).trans y0
  have hxl3 : x < w3.heap.size := by have := hs3.size; omega
  have HI3 := Lib.hid (HI.out w1 w3 HS.out hs3 d hh hlow hd ht3)
  have HD := Lib.hid (low_most hlow hd); have HS3 := Lib.hid hs3
  clear hs3 ht3 hlow hd
  go_wp2_with fail
  refine HI3.out.mono ?_
  rintro e w4 ⟨rfl, ⟨d2, hh2, hlow2, hd2, ht4⟩, hs4⟩
  have hd2' := low_most hlow2 hd2
  rw [HML.out] at hd2'
  rw [← HMD.out] at ht4
  have hfin := ix_tree (most := 2 * Most L.length) hx hm HB.out hxm HSET.out hpt HS.out (HS3.out.trans hs4 (fun _ _ h => h)) (d := d + d2) (by have := HD.out; have := HMO.out; omega) (by rw [show c + ((d + d2 : Nat) : Int) = c + d + d2 by omega]; exact ht4) HMEM.out HND.out H64.out
  have HF := Lib.hid hfin
  clear hlow2 hd2 ht4 hs4 hd2' hfin
  go_wp2_with fail
  go_ret2
  exact ⟨rfl, HF.out⟩

/-- Two rows change places. -/
def swapped (L : List Int) (i k : Nat) : List Int := (L.set i (L.getD k 0)).set k (L.getD i 0)

theorem swapped_perm {L : List Int} {i k : Nat} (hi : i < L.length) (hk : k < L.length) : (swapped L i k).Perm L := by
  have h := List.set_set_perm hi hk
  unfold swapped
  rw [List.getD_eq_getElem?_getD, List.getD_eq_getElem?_getD, List.getElem?_eq_getElem hi, List.getElem?_eq_getElem hk]
  exact h

theorem swapped_length (L : List Int) (i k : Nat) : (swapped L i k).length = L.length := by simp [swapped]

set_option maxHeartbeats 8000000 in
theorem pos_swap {w : World} {P : Nat → Prop} {x i k N : Nat} {L : List Int} {c : Int} (h : IxAt 62 w P x L c N) (hP : ∀ k, w.heap.size ≤ k → P k) (hL : L.length ≤ 80000) (hc : 0 ≤ c ∧ c ≤ 500000000) (hi : i < L.length) (hk : k < L.length) :
    Calls Try.prog 20 #[.pointer (some ⟨x, 0, none⟩), .int .i64 i, .int .i64 k] w fun e w' => e = .returned (.int .i64 0) ∧ IxGot 62 w w' P x (swapped L i k) c N (2 * Most L.length) := by
  have HIN1 := Lib.hid (pos_in_yes (i := (i : Int)) h (by omega) (by omega))
  have HIN2 := Lib.hid (pos_in_yes (i := (k : Int)) h (by omega) (by omega))
  obtain ⟨t, mb, hx, hm, hb, hxm, hset, ht, hnd, h64⟩ := h
  obtain ⟨x0, x1, hxl⟩ := ix_cells hb
  have hpt := ht.1
  have hml := hset.lt
  have HA1 := Lib.hid (tree_at ht (by omega) hi)
  have HA2 := Lib.hid (tree_at ht (by omega) hk)
  have e1 : L[i] = L.getD i 0 := by simp [List.getD_eq_getElem?_getD, hi]
  have e2 : L[k] = L.getD k 0 := by simp [List.getD_eq_getElem?_getD, hk]
  rw [e1] at HA1
  rw [e2] at HA2
  have HS1 := Lib.hid (tree_set (v := L.getD k 0) ht (fun k hk => ⟨hP k hk, by omega, by omega⟩) ⟨hc.1, by omega⟩ (by omega) hi)
  have HS2 := Lib.hid (fun (w2 : World) (hs2 : Same (fun k => k = t) w w2) (d hh : Nat) (hlow : Low L.length hh) (hd : d ≤ 3 * hh + 3) (ht2 : TreeIs w2 (fun k => P k ∧ k ≠ x ∧ k ≠ mb) t (L.set i (L.getD k 0)) (c + d)) =>
    tree_set (v := L.getD i 0) (i := k) ht2 (fun k hk => ⟨hP k (by have := hs2.size; omega), by have := hs2.size; omega, by have := hs2.size; omega⟩) ⟨by omega, by have := low_small hlow (by omega); omega⟩ (by rw [List.length_set]; omega) (by rw [List.length_set]; omega))
  have HB := Lib.hid hb; have HSET := Lib.hid hset
  have hperm := swapped_perm hi hk
  have HMEM := Lib.hid (fun z => hperm.mem_iff (a := z)); have HND := Lib.hid (hperm.nodup_iff.2 hnd); have H64 := Lib.hid h64
  have HSW : Go.RowKit.Hid (swapped L i k = (L.set i (L.getD k 0)).set k (L.getD i 0)) := Lib.hid rfl
  generalize swapped L i k = LM at *
  generalize L.getD i 0 = a at *
  generalize L.getD k 0 = b at *
  clear hb ht hset hnd h64 hP hperm e1 e2
  go_enter Try.func20, Try.ntmps20
  go_wp2_with (first
    | (go_at_call 32; with_reducible refine HIN1.out.mono ?_; rintro e w0 ⟨rfl, rfl⟩)
    | (go_at_call 32; with_reducible refine HIN2.out.mono ?_; rintro e w0 ⟨rfl, rfl⟩)
    | (go_at_call 35; with_reducible refine HA1.out.mono ?_; rintro e w0 ⟨rfl, rfl⟩)
    | (go_at_call 35; with_reducible refine HA2.out.mono ?_; rintro e w0 ⟨rfl, rfl⟩))
  refine HS1.out.mono ?_
  rintro e w3 ⟨rfl, ⟨d, hh, hlow, hd, ht3⟩, hs3⟩
  have z0 := (World.cell?_of_block (a := ⟨x, 0, none⟩) (hs3.block x hxl (fun e => hpt.2.1 e.symm))).trans x0
  have hxl3 : x < w3.heap.size := by have := hs3.size; omega
  have HS3 := Lib.hid (HS2.out w3 hs3 d hh hlow hd ht3)
  have HD := Lib.hid (low_most hlow hd); have HSA := Lib.hid hs3
  clear hs3 ht3 hlow hd
  go_wp2_with fail
  refine HS3.out.mono ?_
  rintro e w4 ⟨rfl, ⟨d2, hh2, hlow2, hd2, ht4⟩, hs4⟩
  have hd2' := low_most hlow2 hd2
  rw [List.length_set] at hd2'
  rw [← HSW.out] at ht4
  have hfin := ix_tree (most := 2 * Most L.length) hx hm HB.out hxm HSET.out hpt (Same.refl _ w) (HSA.out.trans hs4 (fun _ _ h => h)) (d := d + d2) (by have := HD.out; omega) (by rw [show c + ((d + d2 : Nat) : Int) = c + d + d2 by omega]; exact ht4) HMEM.out HND.out H64.out
  have HF := Lib.hid hfin
  clear hlow2 hd2 ht4 hs4 hd2' hfin
  go_wp2_with fail
  go_ret
  exact ⟨rfl, HF.out⟩

set_option maxHeartbeats 4000000 in
theorem pos_swap_no {w : World} {P : Nat → Prop} {x N : Nat} {L : List Int} {c i k : Int} (h : IxAt 62 w P x L c N) (hi : (i < 0 ∨ (L.length : Int) ≤ i) ∨ ((0 ≤ i ∧ i < L.length) ∧ (k < 0 ∨ (L.length : Int) ≤ k))) :
    Calls Try.prog 20 #[.pointer (some ⟨x, 0, none⟩), .int .i64 i, .int .i64 k] w fun e w' => e = .returned (.int .i64 73) ∧ w = w' := by
  rcases hi with h1 | ⟨h1, h2⟩
  · have HIN1 := Lib.hid (pos_in_no h h1)
    clear h h1
    go_enter Try.func20, Try.ntmps20
    go_wp2_with (first | (go_at_call 32; with_reducible refine HIN1.out.mono ?_; rintro e w0 ⟨rfl, rfl⟩))
    go_ret
    exact ⟨rfl, rfl⟩
  · have HIN1 := Lib.hid (pos_in_yes h h1.1 h1.2)
    have HIN2 := Lib.hid (pos_in_no h h2)
    clear h h1 h2
    go_enter Try.func20, Try.ntmps20
    go_wp2_with (first
      | (go_at_call 32; with_reducible refine HIN1.out.mono ?_; rintro e w0 ⟨rfl, rfl⟩)
      | (go_at_call 32; with_reducible refine HIN2.out.mono ?_; rintro e w0 ⟨rfl, rfl⟩))
    go_ret
    exact ⟨rfl, rfl⟩

end Go.Proofs.Ytelgbigpfiohfaa
