/-
  Plain: entries that were taken out by their places, put back the other way round. Conditions: none. ordidx: EraseAt, InsertAt, Place. Conditions: few entries.
-/
import Derived.Test.YtgfmemggfbgjeaaGreatDoorM51
import Derived.Test.YtgfmemggfbgjeaaGreatDoorM39
import Derived.Test.YtgfmemggfbgjeaaGreatDoorM40
import Derived.BigQuiet
namespace Go.Proofs.YtgfmemggfbgjeaaGreatDoor
open Go.RowKit

theorem src_nodup : ∀ (l : List Int) (j : Int), ((src j l).map (fun p => p.2)).Nodup
  | [], _ => List.nodup_nil
  | a :: l, j => by
    have h := src_bounds l (j + 1)
    simp only [src, List.map_cons, List.nodup_cons]
    refine ⟨fun hm => ?_, src_nodup l (j + 1)⟩
    obtain ⟨p, hp, he⟩ := List.mem_map.1 hm
    have := (h p hp).1
    omega

theorem Nums.nodup {ls : List Int} {L : List En} (h : Nums ls L) : (L.map (fun e => e.id)).Nodup := by
  have h1 := h.perm.map (fun p : Int × Int => p.2)
  have h2 : (L.map pairE).map (fun p : Int × Int => p.2) = L.map (fun e => e.id) := by
    rw [List.map_map]
    rfl
  rw [h2] at h1
  exact h1.symm.nodup (src_nodup ls 1)

/-- Behind these steps, the latest first, a row was what it was. -/
def Undo {α : Type} (K0 : List α) : List (Nat × α) → List α → Prop
  | [], K => K = K0
  | (p, e) :: r, K => p ≤ K.length ∧ Undo K0 r (K.take p ++ e :: K.drop p)

theorem Undo.erase {α : Type} {K0 K : List α} {r : List (Nat × α)} (h : Undo K0 r K) {p : Nat} (hp : p < K.length) : Undo K0 ((p, K[p]) :: r) (K.take p ++ K.drop (p + 1)) := by
  refine ⟨by rw [List.length_append, List.length_take, List.length_drop]; omega, ?_⟩
  have e1 : (K.take p ++ K.drop (p + 1)).take p = K.take p := by
    rw [List.take_append_of_le_length (by rw [List.length_take]; omega), List.take_take, Nat.min_self]
  have e2 : (K.take p ++ K.drop (p + 1)).drop p = K.drop (p + 1) := by
    rw [List.drop_append_of_le_length (by rw [List.length_take]; omega), List.drop_take, Nat.sub_self, List.take_zero, List.nil_append]
  rw [e1, e2]
  have e3 : K.take p ++ K[p] :: K.drop (p + 1) = K := by rw [← List.drop_eq_getElem_cons hp, List.take_append_drop]
  rw [e3]
  exact h

theorem kvs_erase (L : List En) (p : Nat) : kvs (L.take p ++ L.drop (p + 1)) = (kvs L).take p ++ (kvs L).drop (p + 1) := by
  unfold kvs
  rw [List.map_append, List.map_take, List.map_drop]

theorem kvs_insert (L : List En) (p : Nat) (e : En) : kvs (L.take p ++ e :: L.drop p) = (kvs L).take p ++ (e.id, e.kv) :: (kvs L).drop p := by
  unfold kvs
  rw [List.map_append, List.map_cons, List.map_take, List.map_drop]

theorem kvs_len (L : List En) : (kvs L).length = L.length := List.length_map _

/-- The steps' marks. -/
def hk (h : List (Nat × En)) : List (Nat × (Int × List V)) := h.map (fun p => (p.1, (p.2.id, p.2.kv)))

theorem undo_erase {K0 : List (Int × List V)} {h : List (Nat × En)} {L : List En} (hu : Undo K0 (hk h) (kvs L)) {p : Nat} (hp : p < L.length) : Undo K0 (hk ((p, L[p]) :: h)) (kvs (L.take p ++ L.drop (p + 1))) := by
  have h1 := hu.erase (p := p) (by rw [kvs_len]; exact hp)
  rw [kvs_erase]
  have h2 : (kvs L)[p]'(by rw [kvs_len]; exact hp) = (L[p].id, L[p].kv) := by simp [kvs]
  rw [h2] at h1
  exact h1

theorem undo_insert {K0 : List (Int × List V)} {h : List (Nat × En)} {L : List En} {p : Nat} {e e' : En} (hu : Undo K0 (hk ((p, e) :: h)) (kvs L)) (hid : e'.id = e.id) (hkv : e'.kv = e.kv) : p ≤ L.length ∧ Undo K0 (hk h) (kvs (L.take p ++ e' :: L.drop p)) := by
  obtain ⟨h1, h2⟩ := hu
  rw [kvs_len] at h1
  rw [kvs_insert, hid, hkv]
  exact ⟨h1, h2⟩

/-- Who was taken out is there no more. -/
theorem gone_not {L : List En} (hn : (L.map (fun e => e.id)).Nodup) {p : Nat} (hp : p < L.length) : (∀ z ∈ L.take p ++ L.drop (p + 1), z.id ≠ L[p].id) ∧ ((L.take p ++ L.drop (p + 1)).map (fun e => e.id)).Nodup := by
  have e3 : L = L.take p ++ L[p] :: L.drop (p + 1) := by rw [← List.drop_eq_getElem_cons hp, List.take_append_drop]
  have hn2 := hn
  rw [e3, List.map_append, List.map_cons] at hn2
  rw [List.nodup_append] at hn2
  obtain ⟨n1, n2, n3⟩ := hn2
  rw [List.nodup_cons] at n2
  constructor
  · intro z hz he
    rcases List.mem_append.1 hz with h | h
    · exact n3 _ (List.mem_map.2 ⟨z, h, rfl⟩) _ (List.mem_cons_self) he
    · exact n2.1 (List.mem_map.2 ⟨z, h, he⟩)
  · rw [List.map_append, List.nodup_append]
    exact ⟨n1, n2.2, fun a ha b hb => n3 a ha b (List.mem_cons_of_mem _ hb)⟩

end Go.Proofs.YtgfmemggfbgjeaaGreatDoor

namespace Go.Proofs.YtgfmemggfbgjeaaGreatDoor
open Go.RowKit Go.Extern.Stop Go.Stop Go.Extern Go.Lib
set_option maxRecDepth 1000000

/-- What turning the tree does to an index. -/
theorem OxAt.turned {w w' : World} {P : Nat → Prop} {x t bm bn : Nat} {uq : Bool} {mp : Value} {n a c cc h s : Int} {L L' : List En} (hO : OxAt w P x t bm bn uq mp n a L c) (hm : MAt w mp cc a h s) (hg : TreeGot w w' P t L L' c) (hsub : ∀ y ∈ L', y ∈ L) : ∃ d : Nat, d ≤ 3 * (Nat.log2 (L.length + 1) / 2) + 3 ∧ OxAt w' P x t bm bn uq mp n a L' (c + d) ∧ MAt w' mp cc a h s ∧ Same (fun k => k = t) w w' := by
  obtain ⟨⟨d, hh, hl, hd, ht⟩, hs⟩ := hg
  obtain ⟨r, hr⟩ := hO.head
  have hxt : x ≠ t := fun e => by subst e; have := hO.idx.symm.trans hr; simp at this
  have hmt : ∀ k, Blk mp k → ¬ k = t := fun k hk e => by subst e; exact hO.pm k hk hO.tree.1
  exact ⟨d, low_most hl hd, ⟨hs.obj hO.idx hxt, ht, hs.one hO.bm (head_ne hr hO.bm), hs.one hO.bn (head_ne hr hO.bn), fun y hy => (hO.keys y (hsub y hy)).kept hs (fun k hk e => hO.kt y (hsub y hy) (by rw [hk, e])), hO.sm, hO.calm, hO.pm, fun y hy => hO.kt y (hsub y hy)⟩, hm.same hs hmt, hs⟩

theorem ierase_ret {a : Act} {w : World} {e : En} {p : Nat} {v : Value} {R : Ending → World → Prop} (hp : a.tmps.getD 4 undef = .pointer (some ⟨p, 0, none⟩)) (hb : w.heap[p]? = some (entObj e)) (h5 : a.tmps.getD 5 undef = v)
    (hd : a.defers = []) (hR : R (.returned (.tuple #[e.agg, v])) w) : bodyPost Tryz.prog Tryz.f22 R .ret a w := by
  obtain ⟨e0, e1, _⟩ := ent_cells hb
  refine bodyPost_ret ?_ hd hR
  rw [results_cell_tmp rfl, hp, h5]
  simp [go_sem, e0, e1]

set_option maxHeartbeats 4000000 in
theorem ierase_any {w0 : World} {P : Nat → Prop} {x t bm bn i : Nat} {uq : Bool} {mp : Value} {L : List En} {n a c cc h s : Int} (hO : OxAt w0 P x t bm bn uq mp n a L c) (hm : MAt w0 mp cc a h s) (hP : ∀ k, w0.heap.size ≤ k → P k) (hL : L.length ≤ 80000) (hc : 0 ≤ c ∧ c ≤ 600000000) (hi : i < L.length) :
    Calls Tryz.prog 22 #[.pointer (some ⟨x, 0, none⟩), .int .i64 i] w0 fun r w' => r = .returned (.tuple #[L[i].agg, .int .i64 0]) ∧ ∃ d : Nat, d ≤ 3 * (Nat.log2 (L.length + 1) / 2) + 3 ∧ OxAt w' P x t bm bn uq mp n a (L.take i ++ L.drop (i + 1)) (c + d) ∧ MAt w' mp cc a h s ∧ Same (fun k => k = t) w0 w' := by
  obtain ⟨w, hw⟩ : ∃ w, w = w0.alloc entNil := ⟨_, rfl⟩
  have hsb : Same (fun _ => False) w0 w := by rw [hw]; exact (Same.refl _ w0).alloc _
  have hrb : w.heap[w0.heap.size]? = some entNil := by rw [hw]; exact heap_alloc_new _ _
  have hsz : w.heap.size = w0.heap.size + 1 := by rw [hw]; simp
  have hT : TreeIs w (fun k => P k ∧ k ≠ w0.heap.size) t L c := (hO.tree.mono (fun k hk hp => ⟨hp, by omega⟩)).keep hsb (fun _ h => h.elim)
  have hidx := hsb.obj hO.idx id
  obtain ⟨i0, i1, i2, il⟩ := idx_cells hidx
  have HER := Lib.hid (tree_erase hT (fun k hk => ⟨hP k (by omega), by omega⟩) ⟨hc.1, by omega⟩ (by omega) hi)
  have HFIN := Lib.hid (fun (W : World) (hg : TreeGot w W (fun k => P k ∧ k ≠ w0.heap.size) t L (L.take i ++ L.drop (i + 1)) c) => hO.turned hm (erase_fin hsb (Nat.le_refl _) L[i] hg) (fun y hy => (List.mem_append.1 hy).elim List.mem_of_mem_take List.mem_of_mem_drop))
  obtain ⟨rr, hrr⟩ := hO.head
  have htl := lt_of_block hrr
  generalize L[i] = y at *
  generalize L.take i ++ L.drop (i + 1) = L2 at *
  have HW := Lib.hid hw; have HRB := Lib.hid hrb
  clear hO hm hw hsb hrb hT hidx hi hrr hP hsz
  go_enter Tryz.func22, Tryz.ntmps22
  go_upto_region 1 with fail
  rw [← HW.out]
  go_wp2_with fail
  refine HER.out.mono ?_
  rintro r w2 ⟨rfl, hg⟩
  have hr2 := hg.2.obj HRB.out (fun e => by omega)
  obtain ⟨r0, r1, rf0, rf1⟩ := ent_cells hr2
  have hrl := lt_of_block hr2
  have HR2 := Lib.hid hr2; have HG := Lib.hid hg
  clear hr2 hg
  go_wp2_with fail
  exact ierase_ret (p := w0.heap.size) (e := y) rfl (set2_obj HR2.out y) rfl rfl ⟨rfl, HFIN.out _ HG.out⟩

set_option maxHeartbeats 4000000 in
theorem ierase_no {w0 : World} {P : Nat → Prop} {x t bm bn : Nat} {i : Int} {uq : Bool} {mp : Value} {L : List En} {n a c : Int} (hO : OxAt w0 P x t bm bn uq mp n a L c) (hi : i < 0 ∨ (L.length : Int) ≤ i) :
    Calls Tryz.prog 22 #[.pointer (some ⟨x, 0, none⟩), .int .i64 i] w0 fun r w' => r = .returned (.tuple #[En.nil.agg, .int .i64 73]) ∧ Same (fun _ => False) w0 w' := by
  obtain ⟨w, hw⟩ : ∃ w, w = w0.alloc entNil := ⟨_, rfl⟩
  have hsb : Same (fun _ => False) w0 w := by rw [hw]; exact (Same.refl _ w0).alloc _
  have hrb : w.heap[w0.heap.size]? = some entNil := by rw [hw]; exact heap_alloc_new _ _
  have hT := hO.tree.keep hsb (fun _ h => h.elim)
  have hidx := hsb.obj hO.idx id
  obtain ⟨i0, i1, i2, il⟩ := idx_cells hidx
  have HER := Lib.hid (tree_erase_no hT hi)
  have HW := Lib.hid hw; have HRB := Lib.hid hrb; have HSB := Lib.hid hsb
  clear hO hw hsb hrb hT hidx hi
  go_enter Tryz.func22, Tryz.ntmps22
  go_upto_region 1 with fail
  rw [← HW.out]
  go_wp2_with fail
  refine HER.out.mono ?_
  rintro r w2 ⟨rfl, hs2⟩
  have hr2 := hs2.obj HRB.out id
  obtain ⟨r0, r1, rf0, rf1⟩ := ent_cells hr2
  have hrl := lt_of_block hr2
  have HR2 := Lib.hid hr2; have HS2 := Lib.hid (HSB.out.trans hs2 (fun _ _ h => h))
  clear hr2 hs2
  go_wp2_with fail
  exact ierase_ret (p := w0.heap.size) (e := En.nil) rfl (set2_obj HR2.out En.nil) rfl rfl ⟨rfl, set2_same HS2.out (fun h => absurd h (Nat.lt_irrefl _)) En.nil⟩

set_option maxHeartbeats 8000000 in
theorem iinsert_any {w0 : World} {P : Nat → Prop} {x t bm bn i : Nat} {uq : Bool} {mp : Value} {L : List En} {n a c cc h s : Int} {e : En} (hO : OxAt w0 P x t bm bn uq mp n a L c) (hm : MAt w0 mp cc a h s) (he : KeyOk w0 mp e.key e.kv) (hP : ∀ k, w0.heap.size ≤ k → P k) (hL : L.length ≤ 80000) (hc : 0 ≤ c ∧ c ≤ 600000000) (hi : i ≤ L.length) :
    Calls Tryz.prog 24 #[.pointer (some ⟨x, 0, none⟩), .int .i64 i, e.agg] w0 fun r w' => r = .returned (.int .i64 0) ∧ ∃ (e' : En) (d : Nat), e'.id = e.id ∧ e'.kv = e.kv ∧ d ≤ 3 * (Nat.log2 (L.length + 1) / 2) + 3 ∧ OxAt w' P x t bm bn uq mp n a (L.take i ++ e' :: L.drop i) (c + d) ∧ MAt w' mp cc a h s ∧ Same (fun k => k = t) w0 w' := by
  obtain ⟨w, hw⟩ : ∃ w, w = w0.alloc (entObj e) := ⟨_, rfl⟩
  have hsb : Same (fun _ => False) w0 w := by rw [hw]; exact (Same.refl _ w0).alloc _
  have heb : w.heap[w0.heap.size]? = some (entObj e) := by rw [hw]; exact heap_alloc_new _ _
  obtain ⟨e0, e1, _, _⟩ := ent_cells heb
  have hel := lt_of_block heb
  have hidx := hsb.obj hO.idx id
  obtain ⟨i0, i1, i2, il⟩ := idx_cells hidx
  have hdr : Same (fun _ => False) w0 w.drew := hsb.drew
  have HCP := Lib.hid (copied_any (w0 := w.drew) (e := e) (he.rd.kept hdr (fun _ _ => id)) he.few)
  have HINS := Lib.hid (fun (W : World) (e' : En) (hs : Same (fun _ => False) w0 W) => tree_insert (v := e') (i := i) (hO.tree.keep hs (fun _ h => h.elim)) (fun k hk => hP k (by have := hs.size; omega)) ⟨hc.1, by omega⟩ (by omega) hi)
  have HFIN := Lib.hid (fun (W W' : World) (e' : En) (hs : Same (fun _ => False) w0 W) (ho : W.ownsRow w.drew.heap.size 39 4 e'.key e.kv.length (vals e.kv)) (hk : e'.kv = e.kv) (hg : TreeGot W W' P t L (L.take i ++ e' :: L.drop i) c) => by
    have hm2 : MAt W mp cc a h s := hm.same hs (fun _ _ => id)
    have hO2 : OxAt W P x t bm bn uq mp n a L c := hO.kept hm (hs.weaken (fun _ _ h => h.elim))
    obtain ⟨rr, hrr⟩ := hO.head
    have htl := lt_of_block hrr
    have hsz : w0.heap.size ≤ w.drew.heap.size := hdr.size
    have hown : ∀ k, e'.key.ownBlock = some k → w0.heap.size ≤ k := fun k hk => Nat.le_trans hsz (ho.lt k hk).1
    have hke : KeyOk W mp e'.key e'.kv := by
      rw [hk]
      exact ⟨ReadV.own ho, CapOk.own ho, he.ok, he.small, he.few, fun k hk hb => by have e1 := hown k hk; have e2 := hm.lt hb; omega⟩
    obtain ⟨d, hd, hO3, hm3, hs3⟩ := hO2.got (e := e') (i := i) hm2 hg hke (fun hk => by have := hown t hk; omega)
    exact (show ∃ d : Nat, d ≤ 3 * (Nat.log2 (L.length + 1) / 2) + 3 ∧ OxAt W' P x t bm bn uq mp n a (L.take i ++ e' :: L.drop i) (c + d) ∧ MAt W' mp cc a h s ∧ Same (fun k => k = t) w0 W' from ⟨d, hd, hO3, hm3, (hs.weaken (fun _ _ h => h.elim)).trans hs3 (fun _ _ h => h)⟩))
  have HID := Lib.hid (fun (W : World) (hs : Same (fun _ => False) w0 W) => idx_cells (hs.obj hO.idx id))
  have HDR := Lib.hid hdr; have HW := Lib.hid hw
  clear hO hm he hP hw hsb heb hidx hdr
  go_enter Tryz.func24, Tryz.ntmps24
  go_upto_region 1 with fail
  rw [← HW.out]
  go_region_with (first
    | (go_at_call 45; refine HCP.out.mono ?_; rintro r w2 ⟨⟨eo, en, ec, ei, ek⟩, rfl, hid, hkv, ho, hs2⟩; have HS2 := Lib.hid (HDR.out.trans hs2 (fun _ _ h => h)); have HKV := Lib.hid hkv; have HO := Lib.hid ho; have HEI := Lib.hid hid; obtain ⟨q0, _, _, ql⟩ := HID.out w2 HS2.out; clear ho hs2 hid hkv)
    | (go_at_call 35; refine (HINS.out w2 ⟨eo, en, ec, ei, ek⟩ HS2.out).mono ?_; rintro r w3 ⟨rfl, hg⟩; have HG := Lib.hid hg; clear hg))
  all_goals go_wp2_with fail
  all_goals (
    go_ret
    obtain ⟨d, hd, r1, r2, r3⟩ := HFIN.out w2 w3 ⟨eo, en, ec, ei, ek⟩ HS2.out HO.out HKV.out HG.out
    exact ⟨rfl, ⟨eo, en, ec, ei, ek⟩, d, HEI.out, HKV.out, hd, r1, r2, r3⟩)

set_option maxHeartbeats 8000000 in
theorem iinsert_no {w0 : World} {P : Nat → Prop} {x t bm bn : Nat} {i : Int} {uq : Bool} {mp : Value} {L : List En} {n a c : Int} {e : En} (hO : OxAt w0 P x t bm bn uq mp n a L c) (he : ReadV w0 e.key e.kv) (hf : e.kv.length ≤ 1000) (hi : i < 0 ∨ (L.length : Int) < i) :
    Calls Tryz.prog 24 #[.pointer (some ⟨x, 0, none⟩), .int .i64 i, e.agg] w0 fun r w' => r = .returned (.int .i64 73) ∧ Same (fun _ => False) w0 w' := by
  obtain ⟨w, hw⟩ : ∃ w, w = w0.alloc (entObj e) := ⟨_, rfl⟩
  have hsb : Same (fun _ => False) w0 w := by rw [hw]; exact (Same.refl _ w0).alloc _
  have heb : w.heap[w0.heap.size]? = some (entObj e) := by rw [hw]; exact heap_alloc_new _ _
  obtain ⟨e0, e1, _, _⟩ := ent_cells heb
  have hel := lt_of_block heb
  have hidx := hsb.obj hO.idx id
  obtain ⟨i0, i1, i2, il⟩ := idx_cells hidx
  have hdr : Same (fun _ => False) w0 w.drew := hsb.drew
  have HCP := Lib.hid (copied_any (w0 := w.drew) (e := e) (he.kept hdr (fun _ _ => id)) hf)
  have HINS := Lib.hid (fun (W : World) (e' : En) (hs : Same (fun _ => False) w0 W) => tree_insert_no (v := e') (hO.tree.keep hs (fun _ h => h.elim)) hi)
  have HID := Lib.hid (fun (W : World) (hs : Same (fun _ => False) w0 W) => idx_cells (hs.obj hO.idx id))
  have HDR := Lib.hid hdr; have HW := Lib.hid hw
  clear hO he hw hsb heb hidx hdr hi
  go_enter Tryz.func24, Tryz.ntmps24
  go_upto_region 1 with fail
  rw [← HW.out]
  go_region_with (first
    | (go_at_call 45; refine HCP.out.mono ?_; rintro r w2 ⟨⟨eo, en, ec, ei, ek⟩, rfl, hid, hkv, ho, hs2⟩; have HS2 := Lib.hid (HDR.out.trans hs2 (fun _ _ h => h)); obtain ⟨q0, _, _, ql⟩ := HID.out w2 HS2.out; clear ho hs2 hid hkv)
    | (go_at_call 35; refine (HINS.out w2 ⟨eo, en, ec, ei, ek⟩ HS2.out).mono ?_; rintro r w3 ⟨rfl, hs3⟩; have HS3 := Lib.hid (HS2.out.trans hs3 (fun _ _ h => h)); clear hs3))
  all_goals go_wp2_with fail
  all_goals (
    go_ret
    exact ⟨rfl, HS3.out⟩)

end Go.Proofs.YtgfmemggfbgjeaaGreatDoor
