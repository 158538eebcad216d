/-
  A tree as a whole: EraseAt, Slice of all, Writes, New. Conditions: few elements, a small count of writes. A tree as a whole: Slice of all, Writes, New. Conditions: few elements.
-/
import Derived.Test.YtgfmemggfbgjeaaGreatDoorM23
namespace Go.Proofs.YtgfmemggfbgjeaaGreatDoor
open Go.RowKit Go.Extern.Stop Go.Stop Go.Extern Go.Lib
set_option maxRecDepth 1000000

theorem erase_ret {a : Act} {w : World} {e : En} {p : Nat} {v : Value} {R : Ending → World → Prop} (hp : a.tmps.getD 4 undef = .pointer (some ⟨p, 0, none⟩)) (hb : w.heap[p]? = some (entObj e)) (h5 : a.tmps.getD 5 undef = v)
    (hd : a.defers = []) (hR : R (.returned (.tuple #[e.agg, v])) w) : bodyPost Tryz.prog Tryz.f48 R .ret a w := by
  obtain ⟨e0, e1, _⟩ := ent_cells hb
  refine bodyPost_ret ?_ hd hR
  rw [results_cell_tmp rfl, hp, h5]
  simp [go_sem, e0, e1]

set_option maxHeartbeats 4000000 in
theorem tree_erase_no {w0 : World} {P : Nat → Prop} {t : Nat} {L : List En} {c i : Int} (h : TreeIs w0 P t L c) (hi : i < 0 ∨ (L.length : Int) ≤ i) :
    Calls Tryz.prog 48 #[.pointer (some ⟨t, 0, none⟩), .int .i64 i] w0 fun e w' => e = .returned (.tuple #[En.nil.agg, .int .i64 73]) ∧ Same (fun _ => False) w0 w' := by
  obtain ⟨w, hw⟩ : ∃ w, w = w0.alloc entNil := ⟨_, rfl⟩
  have hsb : Same (fun _ => False) w0 w := by rw [hw]; exact (Same.refl _ w0).alloc _
  have hrb : w.heap[w0.heap.size]? = some entNil := by rw [hw]; exact heap_alloc_new _ _
  have HAT := Lib.hid (tree_at_no (h.keep hsb (fun _ h => h.elim)) hi)
  have HW := Lib.hid hw; have HSB := Lib.hid hsb; have HRB := Lib.hid hrb
  clear h hi hw hsb hrb
  go_enter Tryz.func48, Tryz.ntmps48
  go_upto_region 1 with fail
  rw [← HW.out]
  go_wp2_with fail
  refine HAT.out.mono ?_
  rintro e w2 ⟨rfl, hs2⟩
  have hr2 := hs2.obj HRB.out id
  have hss := HSB.out.trans hs2 (fun _ _ h => h)
  obtain ⟨r0, r1, rf0, rf1⟩ := ent_cells hr2
  have hrl := lt_of_block hr2
  have HR2 := Lib.hid hr2; have HSS := Lib.hid hss
  clear hs2 hr2 hss
  go_wp2_with fail
  exact erase_ret (p := w0.heap.size) (e := En.nil) rfl (((Same.refl (fun _ => False) _).alloc _).obj (set2_obj HR2.out En.nil) id) rfl rfl ⟨rfl, (set2_same HSS.out (fun h => absurd h (Nat.lt_irrefl _)) En.nil).alloc _⟩

theorem erase_fin {w0 w W : World} {P0 : Nat → Prop} {t R : Nat} {L L' : List En} {c : Int} (hs : Same (fun _ => False) w0 w) (hR : w0.heap.size ≤ R) (y : En) (h : TreeGot w W (fun k => P0 k ∧ k ≠ R) t L L' c) : TreeGot w0 (set2 W R y) P0 t L L' c := by
  obtain ⟨⟨d, hh, hl, hd, ht⟩, hs2⟩ := h
  exact ⟨⟨d, hh, hl, hd, (ht.keep (set2_same (Same.refl (fun k => k = R) W) (fun _ => rfl) y) (fun k e hp => hp.2 e)).mono (fun _ _ h => h.1)⟩, set2_same ((hs.weaken (fun _ _ h => h.elim)).trans hs2 (fun _ _ h => h)) (fun h => by omega) y⟩

theorem NodeAt.spos {w : World} {P : Nat → Prop} {h b s : Nat} {L : List En} (hn : NodeAt w P h b s L) (h0 : 0 < L.length) : 0 < s := by
  cases h with
  | zero => obtain ⟨e, _⟩ := hn; omega
  | succ h => exact hn.2.1

set_option maxHeartbeats 8000000 in
theorem tree_erase {w0 : World} {P0 : Nat → Prop} {t i : Nat} {L : List En} {c : Int} (h0' : TreeIs w0 P0 t L c) (hP0 : ∀ k, w0.heap.size ≤ k → P0 k) (hc : 0 ≤ c ∧ c ≤ 700000000) (hL : L.length ≤ 90000) (hi : i < L.length) :
    Calls Tryz.prog 48 #[.pointer (some ⟨t, 0, none⟩), .int .i64 i] w0 fun e w' => e = .returned (.tuple #[L[i].agg, .int .i64 0]) ∧ TreeGot w0 w' P0 t L (L.take i ++ L.drop (i + 1)) c := by
  obtain ⟨wa, hwa⟩ : ∃ wa, wa = w0.alloc entNil := ⟨_, rfl⟩
  have hsa : Same (fun _ => False) w0 wa := by rw [hwa]; exact (Same.refl _ w0).alloc _
  have hra : wa.heap[w0.heap.size]? = some entNil := by rw [hwa]; exact heap_alloc_new _ _
  have hta : TreeIs wa (fun k => P0 k ∧ k ≠ w0.heap.size) t L c := (h0'.mono (fun k hk hp => ⟨hp, by omega⟩)).keep hsa (fun _ h => h.elim)
  have HAT := Lib.hid (tree_at hta hL hi)
  have HTA := Lib.hid hta; have HRA := Lib.hid hra; have HSA := Lib.hid hsa; have HWA := Lib.hid hwa; have HI := Lib.hid hi; have HL := Lib.hid hL; have HP0 := Lib.hid hP0
  generalize L[i] = y at *
  clear h0' hwa hsa hra hta hi hP0
  go_enter Tryz.func48, Tryz.ntmps48
  go_upto_region 1 with fail
  rw [← HWA.out]
  go_wp2_with fail
  refine HAT.out.mono ?_
  rintro e w2 ⟨rfl, hs2⟩
  obtain ⟨P, hP⟩ : ∃ P : Nat → Prop, P = fun k => P0 k ∧ k ≠ w0.heap.size := ⟨_, rfl⟩
  obtain ⟨w, hw⟩ : ∃ w, w = w2.alloc (entObj y) := ⟨_, rfl⟩
  have hs2w : Same (fun _ => False) wa w := by rw [hw]; exact hs2.alloc _
  have hqb : w.heap[w2.heap.size]? = some (entObj y) := by rw [hw]; exact heap_alloc_new _ _
  have hrb : w.heap[w0.heap.size]? = some entNil := hs2w.obj HRA.out id
  have hr2 := hs2.obj HRA.out id
  have hsw : Same (fun _ => False) w0 w := HSA.out.trans hs2w (fun _ _ h => h)
  have h : TreeIs w P t L c := by rw [hP]; exact HTA.out.keep hs2w (fun _ h => h.elim)
  have hP1 : ∀ k, w.heap.size ≤ k → P k := fun k hk => by
    have h1 := hsw.size
    have h2 := lt_of_block hrb
    rw [hP]
    exact ⟨HP0.out k (by omega), by omega⟩
  obtain ⟨n, b, s, hh, hn, h0, h2⟩ := h.some (by have := HI.out; omega)
  obtain ⟨g0, g1, gf⟩ := head_cells hh
  have hlt := lt_of_block hh
  have hlow := low_of hn h2
  have h8 := low_small hlow (by omega)
  have hqt : w2.heap.size ≠ t := fun e => by rw [e, hh] at hqb; simp at hqb
  have hrt : w0.heap.size ≠ t := fun e => by rw [e, hh] at hrb; simp at hrb
  have hrq : w2.heap.size ≠ w0.heap.size := fun e => by have := lt_of_block hr2; omega
  have HQR := Lib.hid (fun (W : World) (h : Same (fun k => k = t) w W) => And.intro (h.obj hqb hqt) (h.obj hrb hrt))
  have HREC := Lib.hid (erase_any n (i := i) hh ⟨by omega, by omega⟩ hn h0 h2 HI.out (by omega) hP1)
  have HLOW := Lib.hid hlow; have H2 := Lib.hid h2; have HPT := Lib.hid h.1; have HSW := Lib.hid hsw; have HWW := Lib.hid hw; have HPP := Lib.hid hP
  clear h hh hn g1 gf hlow h2 hw hs2w hqb hrb hs2 hsw hP hP1 hr2
  go_upto_region 2 with fail
  rw [← HWW.out]
  go_wp2_with fail
  refine HREC.out.mono ?_
  rintro e w1 ⟨b1, s1, rfl, hlo, hhi, hn1, ⟨d, hd, hh1⟩, hs1⟩
  have hlt1 := lt_of_block hh1
  obtain ⟨q0, q1, qf⟩ := head_cells hh1
  have qf0 := qf 0
  have hs3 : Same (fun k => k = t) w1 (w1.setCell ⟨t, 0, none⟩ (.pointer (some ⟨b1, 0, none⟩))) := (Same.refl (fun k => k = t) w1).setCell (p := ⟨t, 0, none⟩) (fun _ => rfl) _
  have hrel0 : ∃ n' b' s', (w1.setCell ⟨t, 0, none⟩ (.pointer (some ⟨b1, 0, none⟩))).heap[t]? = some (headObj (.pointer (some ⟨b', 0, none⟩)) (c + d)) ∧ NodeAt (w1.setCell ⟨t, 0, none⟩ (.pointer (some ⟨b1, 0, none⟩))) P n' b' s' (L.take i ++ L.drop (i + 1)) ∧ (1 = 0 → (n' ≠ 0 → 2 ≤ s')) ∧ Same (fun k => k = t) w (w1.setCell ⟨t, 0, none⟩ (.pointer (some ⟨b1, 0, none⟩))) :=
    ⟨n, b1, s1, head_set hh1, hn1.same hh1 hs3, fun h => by omega, hs1.trans hs3 (fun _ _ h => h)⟩
  have HREL := Lib.hid hrel0
  clear hn1 hh1 hs1 hs3 hrel0 q1 qf
  go_wp2_with fail
  go_loopg [] 1 (fun rr wr => ∃ n' b' s', wr.heap[t]? = some (headObj (.pointer (some ⟨b', 0, none⟩)) (c + d)) ∧ NodeAt wr P n' b' s' (L.take i ++ L.drop (i + 1)) ∧ (rr = 0 → (n' ≠ 0 → 2 ≤ s')) ∧ Same (fun k => k = t) w wr)
  case atStart => exact HREL.out
  case round =>
    obtain ⟨n', b', s', hh', hn', hz, hs'⟩ := hrel
    have hlt' := lt_of_block hh'
    obtain ⟨r0, r1, rf⟩ := head_cells hh'
    have rf0 := rf 0
    obtain ⟨ln, kn, hbn⟩ := hn'.count
    have hbt : b' ≠ t := fun e => by rw [e, hh'] at hbn; simp at hbn
    have hlen : (L.take i ++ L.drop (i + 1)).length = L.length - 1 := by have := HI.out; rw [List.length_append, List.length_take, List.length_drop]; omega
    have hdone : 0 < (L.take i ++ L.drop (i + 1)).length → (n' ≠ 0 → 2 ≤ s') → TreeGot w wr P t L (L.take i ++ L.drop (i + 1)) c := fun hp h2' =>
      ⟨⟨d, n, HLOW.out, by omega, HPT.out, Or.inr ⟨n', b', s', hh', hn', hn'.spos hp, h2'⟩⟩, hs'⟩
    have hnil : (L.take i ++ L.drop (i + 1)).length = 0 → TreeGot w (wr.setCell ⟨t, 0, none⟩ (.pointer none)) P t L (L.take i ++ L.drop (i + 1)) c := fun hp => by
      have hs3 : Same (fun k => k = t) wr (wr.setCell ⟨t, 0, none⟩ (.pointer none)) := (Same.refl (fun k => k = t) wr).setCell (p := ⟨t, 0, none⟩) (fun _ => rfl) _
      exact ⟨⟨d, n, HLOW.out, by omega, HPT.out, Or.inl ⟨List.length_eq_zero_iff.1 hp, head_set hh'⟩⟩, hs'.trans hs3 (fun _ _ h => h)⟩
    obtain ⟨hq9, hr9⟩ := HQR.out wr hs'
    obtain ⟨q90, q91, _, _⟩ := ent_cells hq9
    obtain ⟨r90, r91, rf90, rf91⟩ := ent_cells hr9
    have hql9 := lt_of_block hq9
    have hrl9 := lt_of_block hr9
    have HR9 := Lib.hid hr9
    clear hq9 hr9
    have HDONE := Lib.hid hdone; have HNIL := Lib.hid hnil; have HH' := Lib.hid hh'; have HS' := Lib.hid hs'; have HZ := Lib.hid hz
    cases n' with
    | zero =>
      obtain ⟨e, h8', _, l, hb, hr, _⟩ := hn'
      obtain ⟨n0, n1, n2, _⟩ := node_cells hb
      have hlb := lt_of_block hb
      clear hbn hdone hnil hh' hs' hz hb hr r1 rf n0
      generalize hLE : L.take i ++ L.drop (i + 1) = LE at *
      have HLE := Lib.hid hLE
      clear hLE
      by_cases h0' : LE.length = 0
      · have h0i : (LE.length : Int) = 0 := by omega
        have HF := Lib.hid (HNIL.out h0')
        rw [h0i] at n2
        clear h0i h0' hlen e
        go_wp2_with fail
        exact erase_ret (p := w0.heap.size) (e := y) rfl (set2_obj ((Below.heap_setCell _ _ _ _ hrt).trans HR9.out) _) rfl rfl ⟨rfl, erase_fin HSW.out (Nat.le_refl _) y (by rw [← HPP.out, HLE.out]; exact HF.out)⟩
      · have h0i : ¬ ((LE.length : Int) = 0) := by omega
        have HF := Lib.hid (HDONE.out (by omega) (fun h => absurd rfl h))
        clear hlen e
        go_wp2_with fail
        exact erase_ret (p := w0.heap.size) (e := y) rfl (set2_obj HR9.out _) rfl rfl ⟨rfl, erase_fin HSW.out (Nat.le_refl _) y (by rw [← HPP.out, HLE.out]; exact HF.out)⟩
    | succ m =>
      have hpos := hn'.pos hn'.2.1
      obtain ⟨h8', hs0', _, kv, ks, hse, hb, hr, _, hle, hk⟩ := hn'
      subst hse
      obtain ⟨kb, ko, kc, kcs, kfr, rfl, hkb, hkc⟩ := hr.where (by simpa using hs0')
      have hlenV : (kidsV ks).length = ks.length := by simp
      rw [hlenV] at hr hb hkc
      obtain ⟨n0, n1, n2, _⟩ := node_cells hb
      have hlb := lt_of_block hb
      have hlk := lt_of_block hkb
      clear hbn hdone hnil hh' hs' hz r1 rf n0
      by_cases hk1 : ks.length = 1
      · have hk1i : (ks.length : Int) = 1 := by omega
        obtain ⟨x, rfl⟩ := List.length_eq_one_iff.1 hk1
        have hx := hr.cell (j := 0) (x := .pointer (some ⟨x.b, 0, none⟩)) rfl
        obtain ⟨x4, xn⟩ := hk x (List.mem_singleton.2 rfl)
        have hkt : kb ≠ t := fun e => by have h1 := HH'.out; rw [e, h1] at hkb; simp at hkb
        rw [kidsL_cons, kidsL_nil, List.append_nil] at hle
        have hs3 : Same (fun k => k = t) wr (wr.setCell ⟨t, 0, none⟩ (.pointer (some ⟨x.b, 0, none⟩))) := (Same.refl (fun k => k = t) wr).setCell (p := ⟨t, 0, none⟩) (fun _ => rfl) _
        have hnew : ∃ n' b' s', (wr.setCell ⟨t, 0, none⟩ (.pointer (some ⟨x.b, 0, none⟩))).heap[t]? = some (headObj (.pointer (some ⟨b', 0, none⟩)) (c + d)) ∧ NodeAt (wr.setCell ⟨t, 0, none⟩ (.pointer (some ⟨x.b, 0, none⟩))) P n' b' s' (L.take i ++ L.drop (i + 1)) ∧ (0 = 0 → (n' ≠ 0 → 2 ≤ s')) ∧ Same (fun k => k = t) w (wr.setCell ⟨t, 0, none⟩ (.pointer (some ⟨x.b, 0, none⟩))) :=
          ⟨m, x.b, x.s, head_set HH'.out, by rw [hle]; exact xn.same HH'.out hs3, fun _ _ => by omega, HS'.out.trans hs3 (fun _ _ h => h)⟩
        have HNEW := Lib.hid hnew
        cases gk with
        | zero =>
          have := HZ.out rfl (by omega)
          simp at this
        | succ g =>
          have hxo : wr.cell? ⟨kb, ko, none⟩ = some (.pointer (some ⟨x.b, 0, none⟩)) := hx
          clear hr hb hk hkb xn hnew hs3 hle hx
          simp only [List.length_singleton] at n1 hk1 hk1i hkc
          go_wp2_with fail
          go_roundg 0
          case measure => omega
          case rel =>
            obtain ⟨n2, b2, s2, a1, a2, a3, a4⟩ := HNEW.out
            exact ⟨n2, b2, s2, a1, a2, fun _ => a3 (by trivial), a4⟩
      · have hk1i : ¬ ((ks.length : Int) = 1) := by omega
        generalize hLE : L.take i ++ L.drop (i + 1) = LE at *
        have HLE := Lib.hid hLE
        clear hLE
        have h0i : ¬ ((LE.length : Int) = 0) := by omega
        have HF := Lib.hid (HDONE.out (by omega) (fun _ => by omega))
        clear hr hb hk hkb hle hlen hpos
        go_wp2_with fail
        exact erase_ret (p := w0.heap.size) (e := y) rfl (set2_obj HR9.out _) rfl rfl ⟨rfl, erase_fin HSW.out (Nat.le_refl _) y (by rw [← HPP.out, HLE.out]; exact HF.out)⟩

end Go.Proofs.YtgfmemggfbgjeaaGreatDoor

namespace Go.Proofs.YtgfmemggfbgjeaaGreatDoor
open Go.RowKit Go.Extern.Stop Go.Stop Go.Extern Go.Lib
set_option maxRecDepth 1000000

set_option maxHeartbeats 8000000 in
theorem tree_all {w : World} {P : Nat → Prop} {t : Nat} {L : List En} {c : Int} (h : TreeIs w P t L c) (hL : L.length ≤ 90000) :
    Calls Tryz.prog 46 #[.pointer (some ⟨t, 0, none⟩), .int .i64 0, .int .i64 L.length] w fun e w' => ∃ v, e = .returned v ∧ w'.ownsRow w.heap.size 57 2 v L.length (entsV L) ∧ Same (fun _ => False) w w' := by
  have HLEN := Lib.hid (tree_len h)
  by_cases h0 : L.length = 0
  · have hL0 : L = [] := List.length_eq_zero_iff.1 h0
    subst hL0
    clear h h0
    go_enter Tryz.func46, Tryz.ntmps46
    go_wp2_with fail
    refine HLEN.out.mono ?_
    rintro e w0 ⟨rfl, rfl⟩
    go_wp2_with fail
    go_ret
    exact ⟨_, rfl, World.ownsRow_nil _ _ _ _, Same.refl _ _⟩
  · obtain ⟨n, b, s, hh, hn, hs0, h2⟩ := h.some (by omega)
    obtain ⟨g0, g1, gf⟩ := head_cells hh
    have hlt := lt_of_block hh
    have hn' : NodeAt w (fun q => q < w.heap.size) n b s L := hn.mono (fun k hk _ => hk)
    have HG := Lib.hid (gather_any n (O := []) (o := .slice none 0 0) (f := 0) (u := L.length) hn' hs0 (by omega) (by simp; omega) (World.ownsRow_nil _ _ _ _) (Nat.le_refl _) (by omega) (by omega) (by omega) (by omega))
    have hpos : ¬ ((L.length : Int) ≤ 0) := by omega
    have hne : ¬ (L = []) := fun e => by rw [e] at h0; exact h0 rfl
    clear h h0 hh hn hn' g1 gf h2
    go_enter Tryz.func46, Tryz.ntmps46
    go_wp2_with fail
    refine HLEN.out.mono ?_
    rintro e w0 ⟨rfl, rfl⟩
    go_wp2_with fail
    refine HG.out.mono ?_
    rintro e w1 ⟨v, rfl, ho, hs⟩
    rw [List.nil_append] at ho
    have HO := Lib.hid ho; have HS := Lib.hid (show Same (fun _ => False) w w1 from ⟨hs.os, hs.tape, hs.output, hs.size, fun k hk _ => hs.block k hk (by omega)⟩)
    clear ho hs
    go_wp2_with fail
    go_ret
    exact ⟨_, rfl, HO.out, HS.out⟩

theorem tree_writes {w : World} {P : Nat → Prop} {t : Nat} {L : List En} {c : Int} (h : TreeIs w P t L c) : Calls Tryz.prog 51 #[.pointer (some ⟨t, 0, none⟩)] w fun e w' => e = .returned (.int .i64 c) ∧ w = w' := by
  obtain ⟨r, hh⟩ := h.head
  obtain ⟨g0, g1, gf⟩ := head_cells hh
  have hlt := lt_of_block hh
  clear h hh g0 gf
  go_enter Tryz.func51, Tryz.ntmps51
  go_wp2_with fail
  go_ret
  exact ⟨rfl, rfl⟩

theorem tree_new (w : World) : Calls Tryz.prog 31 #[] w fun e w' => ∃ t, e = .returned (.pointer (some ⟨t, 0, none⟩)) ∧ w.heap.size ≤ t ∧ TreeIs w' (fun k => w.heap.size ≤ k) t [] 0 ∧ Same (fun _ => False) w w' := by
  go_enter Tryz.func31, Tryz.ntmps31
  go_wp2_with fail
  go_ret
  exact ⟨_, rfl, Nat.le_refl _, ⟨Nat.le_refl _, Or.inl ⟨rfl, heap_alloc_new w _⟩⟩, (Same.refl _ w).alloc _⟩

end Go.Proofs.YtgfmemggfbgjeaaGreatDoor
