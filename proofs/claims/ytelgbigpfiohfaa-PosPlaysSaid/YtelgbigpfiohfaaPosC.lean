/-
  posidx: calls that are refused; EraseAt, Move, Swap. Conditions: few elements, a small count of writes.
-/
import Derived.Test.YtelgbigpfiohfaaPosB
namespace Go.Proofs.Ytelgbigpfiohfaa
open Go.RowKit Go.Extern.Stop Go.Stop Go.Extern Go.Lib Go.Maps
set_option maxRecDepth 1000000

set_option maxHeartbeats 4000000 in
theorem pos_insert_there {w : World} {P : Nat → Prop} {x N : Nat} {L : List Int} {c i y : Int} (h : IxAt 62 w P x L c N) (hy : y ∈ L) :
    Calls Try.prog 10 #[.pointer (some ⟨x, 0, none⟩), .int .i64 i, .int .i64 y] w fun e w' => e = .returned (.int .i64 72) ∧ Same (fun _ => False) w w' := by
  obtain ⟨t, mb, hx, hm, hb, hne, ⟨D, hown, hhas⟩, ht, hnd, h64⟩ := h
  obtain ⟨x0, x1, hxl⟩ := ix_cells hb
  have hq := (hhas y).2 hy
  have HO := Lib.hid hown; have HK := Lib.hid (key_of (h64 y hy))
  clear hb ht hown hhas h64 hy hnd
  go_enter Try.func10, Try.ntmps10
  go_wp2_with (first | (at_lookup; refine wpList_lookup_own_unit _ rfl _ _ 60 rfl 2 63 key_law set_under (unit_zero _) mb N D rfl HO.out _ _ rfl HK.out ?_))
  go_ret
  exact ⟨rfl, (Same.refl _ w).alloc _⟩

set_option maxHeartbeats 4000000 in
theorem pos_insert_bad {w : World} {P : Nat → Prop} {x N : Nat} {L : List Int} {c i y : Int} (h : IxAt 62 w P x L c N) (hy : y ∉ L) (hy64 : I64 y) (hi : i < 0 ∨ (L.length : Int) < i) :
    Calls Try.prog 10 #[.pointer (some ⟨x, 0, none⟩), .int .i64 i, .int .i64 y] w fun e w' => e = .returned (.int .i64 73) ∧ Same (fun _ => False) w w' := by
  have hs0 : Same (fun _ => False) w (w.alloc (.cells #[] 63)) := (Same.refl _ w).alloc _
  obtain ⟨t, mb, hx, hm, hb, hne, ⟨D, hown, hhas⟩, ht, hnd, h64⟩ := h
  obtain ⟨x0, x1, hxl⟩ := ix_cells hb
  have hq : Maps.has D (.int .i64 y) = false := by rw [has_eq hhas]; simp [hy]
  have HO := Lib.hid hown; have HK := Lib.hid (key_of hy64); have HS0 := Lib.hid hs0
  have HINS := Lib.hid (tree_insert_no (v := y) (ht.keep hs0 (fun _ h => h.elim)) hi)
  clear hb ht hown hhas h64 hy hnd hs0 hi
  go_enter Try.func10, Try.ntmps10
  go_wp2_with (first | (at_lookup; refine wpList_lookup_own_unit _ rfl _ _ 60 rfl 2 63 key_law set_under (unit_zero _) mb N D rfl HO.out _ _ rfl HK.out ?_))
  refine HINS.out.mono ?_
  rintro e w1 ⟨rfl, rfl⟩
  go_wp2_with fail
  go_ret
  exact ⟨rfl, HS0.out⟩

set_option maxHeartbeats 4000000 in
theorem pos_erase_no {w : World} {P : Nat → Prop} {x N : Nat} {L : List Int} {c i : Int} (h : IxAt 62 w P x L c N) (hi : i < 0 ∨ (L.length : Int) ≤ i) :
    Calls Try.prog 23 #[.pointer (some ⟨x, 0, none⟩), .int .i64 i] w fun e w' => e = .returned (.tuple #[.int .i64 0, .int .i64 73]) ∧ Same (fun _ => False) w w' := by
  obtain ⟨t, mb, hx, hm, hb, hne, _, ht, _⟩ := h
  obtain ⟨x0, x1, hxl⟩ := ix_cells hb
  have HE := Lib.hid (tree_erase_no ht hi)
  clear hb ht hi
  go_enter Try.func23, Try.ntmps23
  go_wp2_with fail
  refine HE.out.mono ?_
  rintro e w1 ⟨rfl, rfl⟩
  go_wp2_with fail
  go_ret2
  exact ⟨rfl, Same.refl _ _⟩

theorem erase_mem {L : List Int} {i : Nat} (hi : i < L.length) (hn : L.Nodup) (z : Int) : z ∈ L.take i ++ L.drop (i + 1) ↔ z ≠ L[i] ∧ z ∈ L := by
  have e : L = L.take i ++ L[i] :: L.drop (i + 1) := by
    conv => lhs; rw [← List.take_append_drop i L, List.drop_eq_getElem_cons hi]
  have hn2 : (L[i] :: (L.take i ++ L.drop (i + 1))).Nodup := by
    rw [e] at hn
    exact (List.perm_middle).nodup_iff.1 hn
  have hnot := (List.nodup_cons.1 hn2).1
  have hm : z ∈ L ↔ z = L[i] ∨ z ∈ L.take i ++ L.drop (i + 1) := by
    conv => lhs; rw [e]
    rw [(List.perm_middle (a := L[i]) (l₁ := L.take i) (l₂ := L.drop (i + 1))).mem_iff, List.mem_cons]
  constructor
  · intro h
    exact ⟨fun e => hnot (e ▸ h), hm.2 (Or.inr h)⟩
  · rintro ⟨h1, h2⟩
    exact (hm.1 h2).resolve_left h1

theorem erase_nodup {L : List Int} (i : Nat) (hn : L.Nodup) : (L.take i ++ L.drop (i + 1)).Nodup := by
  by_cases hi : i < L.length
  · have e : L = L.take i ++ L[i] :: L.drop (i + 1) := by
      conv => lhs; rw [← List.take_append_drop i L, List.drop_eq_getElem_cons hi]
    rw [e] at hn
    exact (List.nodup_cons.1 ((List.perm_middle).nodup_iff.1 hn)).2
  · rw [List.take_of_length_le (by omega), List.drop_of_length_le (by omega), List.append_nil]
    exact hn

set_option maxHeartbeats 4000000 in
theorem pos_erase {w : World} {P : Nat → Prop} {x i N : Nat} {L : List Int} {c : Int} (h : IxAt 62 w P x L c N) (hP : ∀ k, w.heap.size ≤ k → P k) (hL : L.length ≤ 80000) (hc : 0 ≤ c ∧ c ≤ 600000000) (hi : i < L.length) :
    Calls Try.prog 23 #[.pointer (some ⟨x, 0, none⟩), .int .i64 i] w fun e w' => e = .returned (.tuple #[.int .i64 L[i], .int .i64 0]) ∧ IxGot 62 w w' P x (L.take i ++ L.drop (i + 1)) c N (Most L.length) := by
  obtain ⟨t, mb, hx, hm, hb, hne, ⟨D, hown, hhas⟩, ht, hnd, h64⟩ := h
  obtain ⟨x0, x1, hxl⟩ := ix_cells hb
  have hpt := ht.1
  have HE := Lib.hid (tree_erase ht (fun k hk => ⟨hP k hk, by omega, by have := hown.lt; omega⟩) ⟨hc.1, by omega⟩ (by omega) hi)
  have HO := Lib.hid hown; have HB := Lib.hid hb; have HHAS := Lib.hid hhas
  have HND := Lib.hid (erase_nodup i hnd); have HEM := Lib.hid (fun z => erase_mem hi hnd z)
  have HK := Lib.hid (key_of (h64 L[i] (List.getElem_mem _)))
  have H64 := Lib.hid (show ∀ z ∈ L.take i ++ L.drop (i + 1), I64 z from fun z hz => h64 z ((erase_mem hi hnd z).1 hz).2)
  clear hb ht hown hhas h64 hnd hP
  generalize L[i] = y at *
  go_enter Try.func23, Try.ntmps23
  go_wp2_with fail
  refine HE.out.mono ?_
  rintro e w1 ⟨rfl, ⟨d, hh, hlow, hd, ht1⟩, hs1⟩
  have hx1 : w1.cell? ⟨x, 1, none⟩ = some (.map (some mb)) := (World.cell?_of_block (a := ⟨x, 1, none⟩) (hs1.block x hxl (fun e => hpt.2.1 e.symm))).trans x1
  have hxl1 : x < w1.heap.size := by have := hs1.size; omega
  have HO1 := Lib.hid (own_keep HO.out hs1 (fun e => hpt.2.2 e.symm))
  have HT1 := Lib.hid ht1; have HSW := Lib.hid hs1; have HD := Lib.hid (low_most hlow hd)
  clear ht1 hs1 hd hlow
  go_wp2_with (first | (at_delete; refine wpList_delete_own _ rfl _ _ 60 2 rfl 63 key_law set_under (unitElem (H := Unit)) mb N D rfl HO1.out _ _ rfl HK.out ?_))
  intro w2 hown2 hturn2
  have hgrow2 := hturn2.grown
  have hs2 : Same (fun k => k = mb) w1 w2 := ⟨hgrow2.os, hgrow2.tape, hgrow2.output, hgrow2.size, fun k hk hn => hgrow2.block k hk (fun e => hn (by cases e; rfl))⟩
  have hfin := ix_turned hx hm HB.out hne HO.out.lt hpt HSW.out HD.out HT1.out hs2 (hown2.mono (Nat.le_succ N)) (fun z => by rw [has_del HHAS.out z, HEM.out z]) HND.out H64.out
  have HF := Lib.hid hfin
  clear hown2 hgrow2 hturn2 hs2 hfin
  go_wp2_with fail
  go_ret2
  exact ⟨rfl, HF.out⟩

set_option maxHeartbeats 4000000 in
theorem pos_in {w : World} {P : Nat → Prop} {x N : Nat} {L : List Int} {c i : Int} (h : IxAt 62 w P x L c N) :
    Calls Try.prog 32 #[.pointer (some ⟨x, 0, none⟩), .int .i64 i] w fun e w' => e = .returned (.bool (decide (0 ≤ i ∧ i < (L.length : Int)))) ∧ w = w' := by
  have HLEN := Lib.hid (pos_len h)
  clear h
  by_cases h0 : 0 ≤ i
  · by_cases h1 : i < (L.length : Int)
    · have hd : decide (0 ≤ i ∧ i < (L.length : Int)) = true := by simp [h0, h1]
      rw [hd]
      clear hd
      go_enter Try.func32, Try.ntmps32
      go_wp2_with (first | (go_at_call 26; refine HLEN.out.mono ?_; rintro e w0 ⟨rfl, rfl⟩))
      go_ret
      exact ⟨rfl, rfl⟩
    · have hd : decide (0 ≤ i ∧ i < (L.length : Int)) = false := by simp [h0, h1]
      rw [hd]
      clear hd
      go_enter Try.func32, Try.ntmps32
      go_wp2_with (first | (go_at_call 26; refine HLEN.out.mono ?_; rintro e w0 ⟨rfl, rfl⟩))
      go_ret
      exact ⟨by rw [← decide_eq_false (show ¬ i < (L.length : Int) by omega)]; rfl, rfl⟩
  · have hd : decide (0 ≤ i ∧ i < (L.length : Int)) = false := by simp [h0]
    rw [hd]
    clear hd
    go_enter Try.func32, Try.ntmps32
    go_wp2_with fail
    go_ret
    exact ⟨rfl, rfl⟩

theorem pos_in_yes {w : World} {P : Nat → Prop} {x N : Nat} {L : List Int} {c i : Int} (h : IxAt 62 w P x L c N) (h0 : 0 ≤ i) (h1 : i < (L.length : Int)) :
    Calls Try.prog 32 #[.pointer (some ⟨x, 0, none⟩), .int .i64 i] w fun e w' => e = .returned (.bool true) ∧ w = w' := by
  have := pos_in (i := i) h
  rwa [show decide (0 ≤ i ∧ i < (L.length : Int)) = true by simp [h0, h1]] at this

theorem pos_in_no {w : World} {P : Nat → Prop} {x N : Nat} {L : List Int} {c i : Int} (h : IxAt 62 w P x L c N) (h1 : i < 0 ∨ (L.length : Int) ≤ i) :
    Calls Try.prog 32 #[.pointer (some ⟨x, 0, none⟩), .int .i64 i] w fun e w' => e = .returned (.bool false) ∧ w = w' := by
  have := pos_in (i := i) h
  rwa [show decide (0 ≤ i ∧ i < (L.length : Int)) = false by simp; omega] at this

/-- A row is moved. -/
def movedTo (L : List Int) (y : Int) (u : Nat) : List Int := (L.take (L.idxOf y) ++ L.drop (L.idxOf y + 1)).take u ++ y :: (L.take (L.idxOf y) ++ L.drop (L.idxOf y + 1)).drop u

theorem moved_mem {L : List Int} {y : Int} (u : Nat) (hn : L.Nodup) (hy : y ∈ L) (z : Int) : z ∈ movedTo L y u ↔ z ∈ L := by
  have hi : L.idxOf y < L.length := List.idxOf_lt_length_iff.2 hy
  have hg : L[L.idxOf y] = y := List.getElem_idxOf hi
  unfold movedTo
  rw [insert_mem, erase_mem hi hn, hg]
  constructor
  · rintro (rfl | ⟨_, h⟩)
    · exact hy
    · exact h
  · intro h
    by_cases e : z = y
    · exact Or.inl e
    · exact Or.inr ⟨e, h⟩

theorem moved_nodup {L : List Int} {y : Int} (u : Nat) (hn : L.Nodup) (hy : y ∈ L) : (movedTo L y u).Nodup := by
  have hi : L.idxOf y < L.length := List.idxOf_lt_length_iff.2 hy
  have hg : L[L.idxOf y] = y := List.getElem_idxOf hi
  refine insert_nodup u (erase_nodup _ hn) (fun h => ?_)
  exact ((erase_mem hi hn y).1 h).1 hg.symm

theorem moved_length {L : List Int} {y : Int} (u : Nat) (hy : y ∈ L) : (movedTo L y u).length = L.length := by
  have hi : L.idxOf y < L.length := List.idxOf_lt_length_iff.2 hy
  simp only [movedTo, List.length_append, List.length_cons, List.length_take, List.length_drop]
  omega

theorem most_mono {a b : Nat} (h : a ≤ b) : Most a ≤ Most b := by
  have h1 : Nat.log2 (a + 1) ≤ Nat.log2 (b + 1) := by
    refine (Nat.le_log2 (by omega)).2 ?_
    have := Nat.log2_self_le (n := a + 1) (by omega)
    omega
  unfold Most
  omega

theorem pos_move_gone {w : World} {P : Nat → Prop} {x N : Nat} {L : List Int} {c y i : Int} (h : IxAt 62 w P x L c N) (hy : y ∉ L) (hy64 : I64 y) :
    Calls Try.prog 11 #[.pointer (some ⟨x, 0, none⟩), .int .i64 y, .int .i64 i] w fun e w' => e = .returned (.tuple #[.int .i64 0, .int .i64 71]) ∧ Same (fun _ => False) w w' := by
  have HP := Lib.hid (pos_place_no h hy hy64)
  clear h hy
  go_enter Try.func11, Try.ntmps11
  go_wp2_with fail
  refine HP.out.mono ?_
  rintro e w1 ⟨rfl, hs⟩
  have HS := Lib.hid hs
  clear hs
  go_wp2_with fail
  go_ret2
  exact ⟨rfl, HS.out⟩

theorem pos_move_bad {w : World} {P : Nat → Prop} {x N : Nat} {L : List Int} {c y i : Int} (h : IxAt 62 w P x L c N) (hL : L.length ≤ 90000) (hy : y ∈ L) (hi : i < 0 ∨ (L.length : Int) ≤ i) :
    Calls Try.prog 11 #[.pointer (some ⟨x, 0, none⟩), .int .i64 y, .int .i64 i] w fun e w' => e = .returned (.tuple #[.int .i64 0, .int .i64 73]) ∧ Same (fun _ => False) w w' := by
  have HP := Lib.hid (pos_place h hL hy)
  have HIN := Lib.hid (fun (w' : World) (hs : Same (fun _ => False) w w') => pos_in_no (h.keep hs (fun _ h => h.elim)) hi)
  clear h hy hi
  go_enter Try.func11, Try.ntmps11
  go_wp2_with fail
  refine HP.out.mono ?_
  rintro e w1 ⟨rfl, hs⟩
  have HI := Lib.hid (HIN.out w1 hs); have HS := Lib.hid hs
  clear hs
  go_wp2_with fail
  refine HI.out.mono ?_
  rintro e w2 ⟨rfl, rfl⟩
  go_wp2_with fail
  go_ret2
  exact ⟨rfl, HS.out⟩

theorem pos_move_same {w : World} {P : Nat → Prop} {x N : Nat} {L : List Int} {c y : Int} (h : IxAt 62 w P x L c N) (hL : L.length ≤ 90000) (hy : y ∈ L) :
    Calls Try.prog 11 #[.pointer (some ⟨x, 0, none⟩), .int .i64 y, .int .i64 (L.idxOf y)] w fun e w' => e = .returned (.tuple #[.int .i64 (L.idxOf y), .int .i64 0]) ∧ Same (fun _ => False) w w' := by
  have hlt : L.idxOf y < L.length := List.idxOf_lt_length_iff.2 hy
  have HP := Lib.hid (pos_place h hL hy)
  have HIN := Lib.hid (fun (w' : World) (hs : Same (fun _ => False) w w') => pos_in_yes (i := (L.idxOf y : Int)) (h.keep hs (fun _ h => h.elim)) (by omega) (by omega))
  generalize L.idxOf y = p at *
  clear h hy
  go_enter Try.func11, Try.ntmps11
  go_wp2_with fail
  refine HP.out.mono ?_
  rintro e w1 ⟨rfl, hs⟩
  have HI := Lib.hid (HIN.out w1 hs); have HS := Lib.hid hs
  clear hs
  go_wp2_with fail
  refine HI.out.mono ?_
  rintro e w2 ⟨rfl, rfl⟩
  go_wp2_with fail
  go_ret2
  exact ⟨rfl, HS.out⟩

end Go.Proofs.Ytelgbigpfiohfaa
