/-
  seqidx: New, Len, All, has, Place, target, ahead, puts, InsertAt, Add. Conditions: few elements, a small count of writes.
-/
import Derived.Test.YtelgbigpfiohfaaPosMoves
namespace Go.Proofs.Ytelgbigpfiohfaa
open Go.RowKit Go.Extern.Stop Go.Stop Go.Extern Go.Lib Go.Maps
set_option maxRecDepth 1000000

theorem seq_len {w : World} {P : Nat → Prop} {x N : Nat} {L : List Int} {c : Int} (h : IxAt 67 w P x L c N) :
    Calls Try.prog 37 #[.pointer (some ⟨x, 0, none⟩)] w fun e w' => e = .returned (.int .i64 L.length) ∧ w = w' := by
  obtain ⟨t, mb, _, _, hb, _, _, ht, _⟩ := h
  obtain ⟨x0, x1, hx⟩ := ix_cells hb
  have HL := Lib.hid (tree_len ht)
  clear hb ht x1
  go_enter Try.func37, Try.ntmps37
  go_wp2_with fail
  refine HL.out.mono ?_
  rintro e w0 ⟨rfl, rfl⟩
  go_wp2_with fail
  go_ret
  exact ⟨rfl, rfl⟩

set_option maxHeartbeats 4000000 in
theorem seq_all {w : World} {P : Nat → Prop} {x N : Nat} {L : List Int} {c : Int} (h : IxAt 67 w P x L c N) (hL : L.length ≤ 90000) :
    Calls Try.prog 17 #[.pointer (some ⟨x, 0, none⟩)] w fun e w' => AllOut w w' L e := by
  have h' : IxAt 67 w.drew P x L c N := h.keep ((Same.refl (fun _ => False) w).drew) (fun _ h => h.elim)
  have HLEN := Lib.hid (seq_len h')
  obtain ⟨t, mb, _, _, hb, _, _, ht, _⟩ := h
  obtain ⟨x0, x1, hx⟩ := ix_cells hb
  have HS := Lib.hid (tree_all (w := w.drew) (ht.keep ((Same.refl (fun _ => False) w).drew) (fun _ h => h.elim)) hL)
  clear h' hb ht x1
  go_enter Try.func17, Try.ntmps17
  go_wp2_with fail
  go_region_with (first
    | (go_at_call 37; with_reducible refine HLEN.out.mono ?_; rintro e w0 ⟨rfl, rfl⟩)
    | (go_at_call 38; with_reducible refine HS.out.mono ?_; rintro e w1 ⟨v, rfl, ho, hs⟩; have HO := Lib.hid ho; have HSS := Lib.hid hs; clear ho hs))
  all_goals go_wp2_with fail
  all_goals go_ret
  all_goals exact ⟨_, rfl, HO.out, ((Same.refl (fun _ => False) w).drew).trans HSS.out (fun _ _ h => h)⟩

set_option maxHeartbeats 4000000 in
theorem seq_new (w : World) : Calls Try.prog 15 #[] w fun e w' => ∃ x, e = .returned (.pointer (some ⟨x, 0, none⟩)) ∧ IxAt 67 w' (fun k => w.heap.size ≤ k) x [] 0 0 ∧ Same (fun _ => False) w w' := by
  have hmm := @run_makeMap Try.prog
  have HN := Lib.hid (tree_new w)
  go_enter Try.func15, Try.ntmps15
  go_wp2_with fail
  refine HN.out.mono ?_
  rintro e w1 ⟨t, rfl, hlt, ht, hs⟩
  obtain ⟨r, hr⟩ := ht.head
  have htl := lt_of_block hr
  have HT := Lib.hid ht; have HS := Lib.hid hs
  clear ht hs hr
  go_wp2_with fail
  go_ret
  have hs1 : Same (fun _ => False) w1 (w1.alloc (.map #[] 0)) := (Same.refl _ w1).alloc _
  have hs2 : Same (fun _ => False) (w1.alloc (.map #[] 0)) ((w1.alloc (.map #[] 0)).alloc (.cells #[.pointer (some ⟨t, 0, none⟩), .map (some w1.heap.size)] 67)) := (Same.refl _ _).alloc _
  have hsz : (w1.alloc (.map #[] 0)).heap.size = w1.heap.size + 1 := by simp
  have hw := HS.out.size
  have hset : SetIs (w1.alloc (.map #[] 0)) w1.heap.size [] 0 := ⟨.map [], World.ownsMap_made w1 _ _ _, fun y => by simp [Maps.has]⟩
  refine ⟨_, rfl, ⟨t, w1.heap.size, ?_, hw, ?_, ?_, hset.keep hs2 id, (HT.out.mono (fun k hk hp => ⟨hp, ?_, ?_⟩)).keep (hs1.trans hs2 (fun _ _ h => h)) (fun _ h => h.elim), List.nodup_nil, fun y hy => by cases hy⟩, (HS.out.trans hs1 (fun _ _ h => h)).trans hs2 (fun _ _ h => h)⟩
  all_goals first
    | exact heap_alloc_new _ _
    | (have h9 := heap_alloc_new (w1.alloc (.map #[] 0)) (.cells #[.pointer (some ⟨t, 0, none⟩), .map (some w1.heap.size)] 67); rw [hsz] at h9; exact h9)
    | omega
    | (simp only []; omega)

set_option maxHeartbeats 4000000 in
theorem seq_has {w : World} {P : Nat → Prop} {x N : Nat} {L : List Int} {c y : Int} {q : Bool} (h : IxAt 67 w P x L c N) (hy64 : I64 y) (hq : decide (y ∈ L) = q) :
    Calls Try.prog 42 #[.pointer (some ⟨x, 0, none⟩), .int .i64 y] w fun e w' => e = .returned (.bool q) ∧ Same (fun _ => False) w w' := by
  obtain ⟨t, mb, _, _, hb, _, ⟨D, hown, hhas⟩, ht, _⟩ := h
  obtain ⟨x0, x1, hx⟩ := ix_cells hb
  have hqq : Maps.has D (.int .i64 y) = q := by rw [has_eq hhas]; exact hq
  have HO := Lib.hid hown; have HK := Lib.hid (key_of hy64)
  clear hb ht x0 hown hhas hq
  go_enter Try.func42, Try.ntmps42
  go_wp2_with (first | (at_lookup; refine wpList_lookup_own_unit _ rfl _ _ 60 rfl 2 63 key_law set_under (unit_zero _) mb N D rfl HO.out _ _ rfl HK.out ?_))
  go_ret
  exact ⟨rfl, (Same.refl _ w).alloc _⟩

theorem seq_place {w : World} {P : Nat → Prop} {x N : Nat} {L : List Int} {c y : Int} (h : IxAt 67 w P x L c N) (hL : L.length ≤ 90000) (hy : y ∈ L) (hy64 : I64 y) :
    Calls Try.prog 19 #[.pointer (some ⟨x, 0, none⟩), .int .i64 y] w fun e w' => e = .returned (.tuple #[.int .i64 (L.idxOf y), .bool true]) ∧ Same (fun _ => False) w w' := by
  have HH := Lib.hid (seq_has (q := true) h hy64 (by simp [hy]))
  have HALL := Lib.hid (fun (w' : World) (hs : Same (fun _ => False) w w') => seq_all (h.keep hs (fun _ h => h.elim)) hL)
  have HY := Lib.hid hy
  clear h hy
  go_enter Try.func19, Try.ntmps19
  go_wp2_with fail
  refine HH.out.mono ?_
  rintro e w1 ⟨rfl, hs⟩
  have HA := Lib.hid (HALL.out w1 hs); have HS := Lib.hid hs
  clear hs
  go_wp2_with fail
  refine HA.out.mono ?_
  rintro e w2 ⟨v, rfl, ho, hs2⟩
  have HIX := Lib.hid (index_any (ownsRow_read ho) (by omega) HY.out)
  have HS2 := Lib.hid (HS.out.trans hs2 (fun _ _ h => h))
  clear ho hs2
  go_wp2_with fail
  refine HIX.out.mono ?_
  rintro e w3 ⟨rfl, rfl⟩
  go_wp2_with fail
  go_ret2
  exact ⟨rfl, HS2.out⟩

theorem seq_target_zero {w : World} {x : Nat} : Calls Try.prog 39 #[.pointer (some ⟨x, 0, none⟩), .int .i64 0] w fun e w' => e = .returned (.bool true) ∧ Same (fun _ => False) w w' := by
  go_enter Try.func39, Try.ntmps39
  go_wp2_with fail
  go_ret
  exact ⟨rfl, Same.refl _ _⟩

theorem seq_target {w : World} {P : Nat → Prop} {x N : Nat} {L : List Int} {c z : Int} (h : IxAt 67 w P x L c N) (hz : z = 0 ∨ z ∈ L) (hz64 : I64 z) :
    Calls Try.prog 39 #[.pointer (some ⟨x, 0, none⟩), .int .i64 z] w fun e w' => e = .returned (.bool true) ∧ Same (fun _ => False) w w' := by
  by_cases h0 : z = 0
  · subst h0
    exact seq_target_zero
  · have HH := Lib.hid (seq_has (q := true) h hz64 (by simp [hz.resolve_left h0]))
    clear h hz
    go_enter Try.func39, Try.ntmps39
    go_wp2_with (first | (go_at_call 42; refine HH.out.mono ?_; rintro e w1 ⟨rfl, hs⟩; have HS := Lib.hid hs; clear hs))
    go_ret
    exact ⟨rfl, HS.out⟩

/-- The place right ahead of a row; of 0 the last one. -/
def aheadOf (L : List Int) (z : Int) : Nat := if z = 0 then L.length else L.idxOf z

theorem seq_ahead_zero {w : World} {P : Nat → Prop} {x N : Nat} {L : List Int} {c : Int} (h : IxAt 67 w P x L c N) : Calls Try.prog 41 #[.pointer (some ⟨x, 0, none⟩), .int .i64 0] w fun e w' => e = .returned (.int .i64 L.length) ∧ Same (fun _ => False) w w' := by
  have HL := Lib.hid (seq_len h)
  clear h
  go_enter Try.func41, Try.ntmps41
  go_wp2_with fail
  refine HL.out.mono ?_
  rintro e w1 ⟨rfl, rfl⟩
  go_wp2_with fail
  go_ret
  exact ⟨rfl, Same.refl _ _⟩

theorem seq_ahead {w : World} {P : Nat → Prop} {x N : Nat} {L : List Int} {c z : Int} (h : IxAt 67 w P x L c N) (hL : L.length ≤ 90000) (hz : z = 0 ∨ z ∈ L) (hz64 : I64 z) :
    Calls Try.prog 41 #[.pointer (some ⟨x, 0, none⟩), .int .i64 z] w fun e w' => e = .returned (.int .i64 (aheadOf L z)) ∧ Same (fun _ => False) w w' := by
  by_cases h0 : z = 0
  · subst h0
    rw [show aheadOf L 0 = L.length by simp [aheadOf]]
    exact seq_ahead_zero h
  · have HP := Lib.hid (seq_place h hL (hz.resolve_left h0) hz64)
    rw [show aheadOf L z = L.idxOf z by simp [aheadOf, h0]]
    clear h hz
    go_enter Try.func41, Try.ntmps41
    go_wp2_with fail
    refine HP.out.mono ?_
    rintro e w1 ⟨rfl, hs⟩
    have HS := Lib.hid hs
    clear hs
    go_wp2_with fail
    go_ret
    exact ⟨rfl, HS.out⟩

set_option maxHeartbeats 4000000 in
theorem seq_puts {w : World} {P : Nat → Prop} {x i N : Nat} {L : List Int} {c y : Int} (h : IxAt 67 w P x L c N) (hP : ∀ k, w.heap.size ≤ k → P k) (hL : L.length ≤ 80000) (hc : 0 ≤ c ∧ c ≤ 600000000) (hN : N ≤ 1000000) (hi : i ≤ L.length) (hy : y ∉ L) (hy64 : I64 y) :
    Calls Try.prog 40 #[.pointer (some ⟨x, 0, none⟩), .int .i64 i, .int .i64 y] w fun e w' => e = .returned (.tuple #[]) ∧ IxGot 67 w w' P x (ins L i y) c N (Most L.length) := by
  obtain ⟨t, mb, hx, hm, hb, hne, ⟨D, hown, hhas⟩, ht, hnd, h64⟩ := h
  obtain ⟨x0, x1, hxl⟩ := ix_cells hb
  have hpt := ht.1
  have HINS := Lib.hid (tree_insert (v := y) ht (fun k hk => ⟨hP k hk, by omega, by have := hown.lt; omega⟩) ⟨hc.1, by omega⟩ (by omega) hi)
  have HO := Lib.hid hown; have HK := Lib.hid (key_of hy64); have HB := Lib.hid hb
  have HHAS := Lib.hid hhas; have HND := Lib.hid (insert_nodup i hnd hy); have HIM := Lib.hid hown.isMap
  have H64 := Lib.hid (show ∀ z ∈ L.take i ++ y :: L.drop i, I64 z from fun z hz => by
    rcases (insert_mem i).1 hz with rfl | hz
    · exact hy64
    · exact h64 z hz)
  clear hb ht hown hhas h64 hy hnd hP
  go_enter Try.func40, Try.ntmps40
  go_wp2_with fail
  refine HINS.out.mono ?_
  rintro e w1 ⟨rfl, ⟨d, hh, hlow, hd, ht1⟩, hs1⟩
  have hx1 : w1.cell? ⟨x, 1, none⟩ = some (.map (some mb)) := (World.cell?_of_block (a := ⟨x, 1, none⟩) (hs1.block x hxl (fun e => hpt.2.1 e.symm))).trans x1
  have hxl1 : x < w1.heap.size := by have := hs1.size; omega
  have HO1 := Lib.hid (own_keep HO.out hs1 (fun e => hpt.2.2 e.symm))
  have HT1 := Lib.hid ht1; have HSW := Lib.hid hs1; have HD := Lib.hid (low_most hlow hd)
  clear ht1 hs1 hd hlow
  go_wp2_with (first | (at_mapUpdate; refine wpList_mapUpdate_own _ rfl _ _ _ 60 rfl 2 63 key_law set_under (unitElem (H := Unit)) mb N D rfl HO1.out (by unfold maxLen; omega) _ _ _ rfl rfl HK.out (.agg []) [] unitElem_mk ?_))
  intro w2 hown2 hgrow2
  have hs2 : Same (fun k => k = mb) w1 w2 := ⟨hgrow2.os, hgrow2.tape, hgrow2.output, hgrow2.size, fun k hk hn => hgrow2.block k hk (fun e => hn (by cases e; rfl))⟩
  have hfin := ix_turned hx hm HB.out hne HO.out.lt hpt HSW.out HD.out HT1.out hs2 hown2 (fun z => by rw [has_put HIM.out HHAS.out z, insert_mem i]) HND.out H64.out
  have HF := Lib.hid hfin
  clear hown2 hgrow2 hs2 hfin
  go_wp2_with fail
  go_end0
  exact ⟨rfl, HF.out⟩

end Go.Proofs.Ytelgbigpfiohfaa
