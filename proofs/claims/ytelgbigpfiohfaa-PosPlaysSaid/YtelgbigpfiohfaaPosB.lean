/-
  posidx: New, InsertAt, EraseAt, Writes. Conditions: few elements, a small count of writes.
-/
import Derived.Test.YtelgbigpfiohfaaPosA
namespace Go.Proofs.Ytelgbigpfiohfaa
open Go.RowKit Go.Extern.Stop Go.Stop Go.Extern Go.Lib Go.Maps
set_option maxRecDepth 1000000

theorem pos_writes {w : World} {P : Nat → Prop} {x N : Nat} {L : List Int} {c : Int} (h : IxAt 62 w P x L c N) :
    Calls Try.prog 21 #[.pointer (some ⟨x, 0, none⟩)] w fun e w' => e = .returned (.int .i64 c) ∧ w = w' := by
  obtain ⟨t, mb, _, _, hb, _, _, ht, _⟩ := h
  obtain ⟨x0, x1, hx⟩ := ix_cells hb
  have HL := Lib.hid (tree_writes ht)
  clear hb ht x1
  go_enter Try.func21, Try.ntmps21
  go_wp2_with fail
  refine HL.out.mono ?_
  rintro e w0 ⟨rfl, rfl⟩
  go_wp2_with fail
  go_ret
  exact ⟨rfl, rfl⟩

set_option maxHeartbeats 4000000 in
theorem pos_new (w : World) : Calls Try.prog 9 #[] w fun e w' => ∃ x, e = .returned (.pointer (some ⟨x, 0, none⟩)) ∧ IxAt 62 w' (fun k => w.heap.size ≤ k) x [] 0 0 ∧ Same (fun _ => False) w w' := by
  have hmm := @run_makeMap Try.prog
  have HN := Lib.hid (tree_new w)
  go_enter Try.func9, Try.ntmps9
  go_wp2_with fail
  refine HN.out.mono ?_
  rintro e w1 ⟨t, rfl, hlt, ht, hs⟩
  obtain ⟨r, hr⟩ := ht.head
  have htl := lt_of_block hr
  have HT := Lib.hid ht; have HS := Lib.hid hs
  clear ht hs hr
  go_wp2_with fail
  go_ret
  have hs1 : Same (fun _ => False) w1 (w1.alloc (.map #[] 0)) := (Same.refl _ w1).alloc _
  have hs2 : Same (fun _ => False) (w1.alloc (.map #[] 0)) ((w1.alloc (.map #[] 0)).alloc (.cells #[.pointer (some ⟨t, 0, none⟩), .map (some w1.heap.size)] 62)) := (Same.refl _ _).alloc _
  have hsz : (w1.alloc (.map #[] 0)).heap.size = w1.heap.size + 1 := by simp
  have hw := HS.out.size
  have hset : SetIs (w1.alloc (.map #[] 0)) w1.heap.size [] 0 := ⟨.map [], World.ownsMap_made w1 _ _ _, fun y => by simp [Maps.has]⟩
  refine ⟨_, rfl, ⟨t, w1.heap.size, ?_, hw, ?_, ?_, hset.keep hs2 id, (HT.out.mono (fun k hk hp => ⟨hp, ?_, ?_⟩)).keep (hs1.trans hs2 (fun _ _ h => h)) (fun _ h => h.elim), List.nodup_nil, fun y hy => by cases hy⟩, (HS.out.trans hs1 (fun _ _ h => h)).trans hs2 (fun _ _ h => h)⟩
  all_goals first
    | exact heap_alloc_new _ _
    | (have h9 := heap_alloc_new (w1.alloc (.map #[] 0)) (.cells #[.pointer (some ⟨t, 0, none⟩), .map (some w1.heap.size)] 62); rw [hsz] at h9; exact h9)
    | omega
    | (simp only []; omega)

theorem own_keep {w w' : World} {F : Nat → Prop} {mb N : Nat} {D : DataW Unit} (h : w.ownsMap Try.prog 2 (unitElem (H := Unit)) mb N D) (hs : Same F w w') (hF : ¬ F mb) : w'.ownsMap Try.prog 2 (unitElem (H := Unit)) mb N D := by
  obtain ⟨es, clock, hb, h2⟩ := h
  exact ⟨es, clock, hs.obj hb hF, h2⟩

theorem has_put {D : DataW Unit} {L : List Int} {y : Int} (hm : Maps.IsMap D) (h : ∀ z, Maps.has D (.int .i64 z) = true ↔ z ∈ L) (z : Int) : Maps.has (D.put (.int .i64 y) (.agg [])) (.int .i64 z) = true ↔ z = y ∨ z ∈ L := by
  by_cases e : z = y
  · subst e
    rw [Maps.has_put_same hm (by simp [WideAt.IsKeyLit])]
    simp
  · rw [Maps.has_put_other (fun h => e (by simpa using h)), h z]
    simp [e]

theorem has_del {D : DataW Unit} {L : List Int} {y : Int} (h : ∀ z, Maps.has D (.int .i64 z) = true ↔ z ∈ L) (z : Int) : Maps.has (D.del (.int .i64 y)) (.int .i64 z) = true ↔ z ≠ y ∧ z ∈ L := by
  by_cases e : z = y
  · subst e
    rw [Maps.has_del_same]
    simp
  · rw [Maps.has_del_other (fun h => e (by simpa using h)), h z]
    simp [e]

/-- A tree turned, a map turned: the index. -/
theorem ix_turned {T : TypeId} {w w1 w2 : World} {P : Nat → Prop} {x t mb N most : Nat} {L' : List Int} {c : Int} {D' : DataW Unit} (hx : P x) (hm : P mb) (hb : w.heap[x]? = some (.cells #[.pointer (some ⟨t, 0, none⟩), .map (some mb)] T (0, 0))) (hne : x ≠ mb) (hlm : mb < w.heap.size) (hpt : P t ∧ t ≠ x ∧ t ≠ mb)
    (hs1 : Same (fun k => k = t) w w1) {d : Nat} (hd : d ≤ most) (ht : TreeIs w1 (fun k => P k ∧ k ≠ x ∧ k ≠ mb) t L' (c + d)) (hs2 : Same (fun k => k = mb) w1 w2) (ho : w2.ownsMap Try.prog 2 (unitElem (H := Unit)) mb (N + 1) D') (hh : ∀ z, Maps.has D' (.int .i64 z) = true ↔ z ∈ L') (hn : L'.Nodup) (h64 : ∀ z ∈ L', I64 z) :
    IxGot T w w2 P x L' c N most := by
  have hlx := lt_of_block hb
  refine ⟨⟨d, hd, t, mb, hx, hm, hs2.obj (hs1.obj hb (fun e => hpt.2.1 e.symm)) hne, hne, ⟨D', ho, hh⟩, ht.keep hs2 (fun k hk hp => hp.2.2 hk), hn, h64⟩, ?_⟩
  exact (hs1.weaken (fun k _ e => by subst e; exact hpt.1)).trans (hs2.weaken (F' := P) (fun k _ e => by subst e; exact hm)) (fun _ _ h => h)

set_option maxHeartbeats 4000000 in
theorem pos_insert {w : World} {P : Nat → Prop} {x i N : Nat} {L : List Int} {c y : Int} (h : IxAt 62 w P x L c N) (hP : ∀ k, w.heap.size ≤ k → P k) (hL : L.length ≤ 80000) (hc : 0 ≤ c ∧ c ≤ 600000000) (hN : N ≤ 1000000) (hi : i ≤ L.length) (hy : y ∉ L) (hy64 : I64 y) :
    Calls Try.prog 10 #[.pointer (some ⟨x, 0, none⟩), .int .i64 i, .int .i64 y] w fun e w' => e = .returned (.int .i64 0) ∧ IxGot 62 w w' P x (L.take i ++ y :: L.drop i) c N (Most L.length) := by
  have hs0 : Same (fun _ => False) w (w.alloc (.cells #[] 63)) := (Same.refl _ w).alloc _
  obtain ⟨t, mb, hx, hm, hb, hne, ⟨D, hown, hhas⟩, ht, hnd, h64⟩ := h
  obtain ⟨x0, x1, hxl⟩ := ix_cells hb
  have hpt := ht.1
  have hq : Maps.has D (.int .i64 y) = false := by rw [has_eq hhas]; simp [hy]
  have hsz0 : (w.alloc (.cells #[] 63)).heap.size = w.heap.size + 1 := by simp
  have HINS := Lib.hid (tree_insert (v := y) (ht.keep hs0 (fun _ h => h.elim)) (fun k hk => ⟨hP k (by omega), by omega, by have := hown.lt; omega⟩) ⟨hc.1, by omega⟩ (by omega) hi)
  have HO := Lib.hid hown; have HK := Lib.hid (key_of hy64); have HS0 := Lib.hid hs0; have HB := Lib.hid hb
  have HHAS := Lib.hid hhas; have HND := Lib.hid (insert_nodup i hnd hy); have HIM := Lib.hid hown.isMap
  have H64 := Lib.hid (show ∀ z ∈ L.take i ++ y :: L.drop i, I64 z from fun z hz => by
    rcases (insert_mem i).1 hz with rfl | hz
    · exact hy64
    · exact h64 z hz)
  clear hb ht hown hhas hs0 h64 hy hnd hP
  go_enter Try.func10, Try.ntmps10
  go_wp2_with (first | (at_lookup; refine wpList_lookup_own_unit _ rfl _ _ 60 rfl 2 63 key_law set_under (unit_zero _) mb N D rfl HO.out _ _ rfl HK.out ?_))
  refine HINS.out.mono ?_
  rintro e w1 ⟨rfl, ⟨d, hh, hlow, hd, ht1⟩, hs1⟩
  have hsw1 : Same (fun k => k = t) w w1 := (HS0.out.weaken (fun _ _ h => h.elim)).trans hs1 (fun _ _ h => h)
  have hx1 : w1.cell? ⟨x, 1, none⟩ = some (.map (some mb)) := (World.cell?_of_block (a := ⟨x, 1, none⟩) (hsw1.block x hxl (fun e => hpt.2.1 e.symm))).trans x1
  have hxl1 : x < w1.heap.size := by have := hsw1.size; omega
  have HO1 := Lib.hid (own_keep HO.out hsw1 (fun e => hpt.2.2 e.symm))
  have HT1 := Lib.hid ht1; have HSW := Lib.hid hsw1; have HD := Lib.hid (low_most hlow hd)
  clear ht1 hs1 hsw1 hd hlow
  go_wp2_with (first | (at_mapUpdate; refine wpList_mapUpdate_own _ rfl _ _ _ 60 rfl 2 63 key_law set_under (unitElem (H := Unit)) mb N D rfl HO1.out (by unfold maxLen; omega) _ _ _ rfl rfl HK.out (.agg []) [] unitElem_mk ?_))
  intro w2 hown2 hgrow2
  have hs2 : Same (fun k => k = mb) w1 w2 := ⟨hgrow2.os, hgrow2.tape, hgrow2.output, hgrow2.size, fun k hk hn => hgrow2.block k hk (fun e => hn (by cases e; rfl))⟩
  have hfin := ix_turned hx hm HB.out hne HO.out.lt hpt HSW.out HD.out HT1.out hs2 hown2 (fun z => by rw [has_put HIM.out HHAS.out z, insert_mem i]) HND.out H64.out
  have HF := Lib.hid hfin
  clear hown2 hgrow2 hs2 hfin
  go_wp2_with fail
  go_ret
  exact ⟨rfl, HF.out⟩

end Go.Proofs.Ytelgbigpfiohfaa
