/-
  A tree of entries as a whole: places that aren't there; At. Conditions: few elements, a small count of writes.
-/
import Derived.Test.YtgfmemggfbgjeaaGreatDoorM22
namespace Go.Proofs.YtgfmemggfbgjeaaGreatDoor
open Go.RowKit Go.Extern.Stop Go.Stop Go.Extern Go.Lib
set_option maxRecDepth 1000000

abbrev entObj (e : En) : Obj := .cells #[.slice e.ao e.n e.cap, .int .i64 e.id] 57
abbrev entNil : Obj := .cells #[.slice none 0 0, .int .i64 0] 57
abbrev En.nil : En := ⟨none, 0, 0, 0, []⟩

theorem ent_cells {w : World} {b : Nat} {x y : Value} {T : TypeId} (h : w.heap[b]? = some (.cells #[x, y] T (0, 0))) : w.cell? ⟨b, 0, none⟩ = some x ∧ w.cell? ⟨b, 1, none⟩ = some y ∧ w.frozen? ⟨b, 0, none⟩ = false ∧ w.frozen? ⟨b, 1, none⟩ = false := by
  simp [World.cell?, World.frozen?, h]

abbrev set2 (W : World) (p : Nat) (e : En) : World := (W.setCell ⟨p, 0, none⟩ (.slice e.ao e.n e.cap)).setCell ⟨p, 1, none⟩ (.int .i64 e.id)

theorem set2_obj {W : World} {p : Nat} {x y : Value} (h : W.heap[p]? = some (.cells #[x, y] 57 (0, 0))) (e : En) : (set2 W p e).heap[p]? = some (entObj e) := set_at (set_at h)

theorem set2_same {F : Nat → Prop} {w W : World} {p : Nat} (h : Same F w W) (hp : p < w.heap.size → F p) (e : En) : Same F w (set2 W p e) := (h.setCell (p := ⟨p, 0, none⟩) hp _).setCell (p := ⟨p, 1, none⟩) hp _

theorem at_ret {a : Act} {w : World} {e : En} {p : Nat} {v : Value} {R : Ending → World → Prop} (hp : a.tmps.getD 4 undef = .pointer (some ⟨p, 0, none⟩)) (hb : w.heap[p]? = some (entObj e)) (h5 : a.tmps.getD 5 undef = v)
    (hd : a.defers = []) (hR : R (.returned (.tuple #[e.agg, v])) w) : bodyPost Tryz.prog Tryz.f34 R .ret a w := by
  obtain ⟨e0, e1, _⟩ := ent_cells hb
  refine bodyPost_ret ?_ hd hR
  rw [results_cell_tmp rfl, hp, h5]
  simp [go_sem, e0, e1]

set_option maxHeartbeats 4000000 in
theorem tree_insert_no {w : World} {P : Nat → Prop} {t : Nat} {L : List En} {c i : Int} {v : En} (h : TreeIs w P t L c) (hi : i < 0 ∨ (L.length : Int) < i) :
    Calls Tryz.prog 35 #[.pointer (some ⟨t, 0, none⟩), .int .i64 i, v.agg] w fun e w' => e = .returned (.int .i64 73) ∧ Same (fun _ => False) w w' := by
  have hsb : Same (fun _ => False) w (w.alloc (.cells #[.slice v.ao v.n v.cap, .int .i64 v.id] 57)) := (Same.refl _ w).alloc _
  have HLEN := Lib.hid (tree_len (h.keep hsb (fun _ h => h.elim)))
  have HSB := Lib.hid hsb
  clear h hsb
  by_cases h0 : i < 0
  all_goals (
    have hi' : ¬ i < 0 → (L.length : Int) < i := fun h => hi.resolve_left h
    have HI := Lib.hid hi'
    clear hi hi'
    first
    | (go_enter Tryz.func35, Tryz.ntmps35
       have hlt := HI.out h0
       go_wp2_with (first | (go_at_call 38; refine HLEN.out.mono ?_; rintro e w0 ⟨rfl, rfl⟩))
       go_ret
       exact ⟨rfl, HSB.out⟩)
    | (go_enter Tryz.func35, Tryz.ntmps35
       go_wp2_with fail
       go_ret
       exact ⟨rfl, HSB.out⟩))

set_option maxHeartbeats 4000000 in
theorem tree_at_no {w : World} {P : Nat → Prop} {t : Nat} {L : List En} {c i : Int} (h : TreeIs w P t L c) (hi : i < 0 ∨ (L.length : Int) ≤ i) :
    Calls Tryz.prog 34 #[.pointer (some ⟨t, 0, none⟩), .int .i64 i] w fun e w' => e = .returned (.tuple #[En.nil.agg, .bool false]) ∧ Same (fun _ => False) w w' := by
  have hsb : Same (fun _ => False) w ((w.alloc entNil).alloc entNil) := ((Same.refl _ w).alloc _).alloc _
  have HLEN := Lib.hid (tree_len (h.keep hsb (fun _ h => h.elim)))
  have HSB := Lib.hid hsb
  have HRB := Lib.hid (show ((w.alloc entNil).alloc entNil).heap[w.heap.size]? = some (entObj En.nil) from ((Same.refl (fun _ => False) _).alloc _).obj (heap_alloc_new _ _) id)
  clear h hsb
  by_cases h0 : i < 0
  all_goals (
    have hi' : ¬ i < 0 → (L.length : Int) ≤ i := fun h => hi.resolve_left h
    have HI := Lib.hid hi'
    clear hi hi'
    first
    | (go_enter Tryz.func34, Tryz.ntmps34
       have hlt := HI.out h0
       go_wp2_with (first | (go_at_call 38; refine HLEN.out.mono ?_; rintro e w0 ⟨rfl, rfl⟩))
       exact at_ret (e := En.nil) rfl HRB.out rfl rfl ⟨rfl, HSB.out⟩)
    | (go_enter Tryz.func34, Tryz.ntmps34
       go_wp2_with fail
       exact at_ret (e := En.nil) rfl HRB.out rfl rfl ⟨rfl, HSB.out⟩))

theorem TreeIs.some {w : World} {P : Nat → Prop} {t : Nat} {L : List En} {c : Int} (h : TreeIs w P t L c) (h0 : 0 < L.length) : ∃ n b s, w.heap[t]? = some (headObj (.pointer (some ⟨b, 0, none⟩)) c) ∧ NodeAt w P n b s L ∧ 0 < s ∧ (n ≠ 0 → 2 ≤ s) := by
  rcases h.2 with ⟨rfl, _⟩ | h
  · simp at h0
  · exact h

set_option maxHeartbeats 8000000 in
theorem tree_at {w0 : World} {P : Nat → Prop} {t i : Nat} {L : List En} {c : Int} (h0' : TreeIs w0 P t L c) (hL : L.length ≤ 90000) (hi : i < L.length) :
    Calls Tryz.prog 34 #[.pointer (some ⟨t, 0, none⟩), .int .i64 i] w0 fun e w' => e = .returned (.tuple #[L[i].agg, .bool true]) ∧ Same (fun _ => False) w0 w' := by
  obtain ⟨w, hw⟩ : ∃ w, w = (w0.alloc entNil).alloc entNil := ⟨_, rfl⟩
  have hsb : Same (fun _ => False) w0 w := by rw [hw]; exact ((Same.refl _ w0).alloc _).alloc _
  have h := h0'.keep hsb (fun _ h => h.elim)
  have hrb : w.heap[w0.heap.size]? = some entNil := by rw [hw]; exact ((Same.refl (fun _ => False) _).alloc _).obj (heap_alloc_new _ _) id
  obtain ⟨r0, r1, rf0, rf1⟩ := ent_cells hrb
  have hrl := lt_of_block hrb
  have HW := Lib.hid hw; have HSB := Lib.hid hsb; have HRB := Lib.hid hrb
  clear h0' hw hsb hrb
  have HLEN := Lib.hid (tree_len h)
  have hii : (i : Int) < (L.length : Int) := by omega
  have hile : ¬ (L.length ≤ i) := by omega
  have hil2 : ¬ ((L.length : Int) ≤ (i : Int)) := by omega
  obtain ⟨n, b, s, hh, hn, h0, h2⟩ := h.some (by omega)
  obtain ⟨g0, g1, gf⟩ := head_cells hh
  have hlt := lt_of_block hh
  have HN := Lib.hid hn; have HL := Lib.hid hL
  have hyi : L[i]? = some L[i] := List.getElem?_eq_getElem hi
  generalize L[i] = y at *
  have HYI := Lib.hid hyi
  clear h hh hn g1 gf h2 hyi
  go_enter Tryz.func34, Tryz.ntmps34
  go_upto_region 2 with fail
  rw [← HW.out]
  go_wp2_with (first | (go_at_call 38; refine HLEN.out.mono ?_; rintro e w9 ⟨rfl, rfl⟩))
  go_loopg [1, 7] n (fun rr ii xx wr => ∃ (b s p : Nat) (M : List En), ii = .int .i64 p ∧ xx = .pointer (some ⟨b, 0, none⟩) ∧ NodeAt w P rr b s M ∧ 0 < s ∧ p < M.length ∧ M[p]? = L[i]? ∧ M.length ≤ 90000 ∧ w = wr)
  case atStart => exact ⟨b, s, i, L, rfl, rfl, HN.out, h0, hi, rfl, HL.out, rfl⟩
  case round =>
    obtain ⟨b, s, p, M, rfl, rfl, hn, hs0, hp, hM, hML, rfl⟩ := hrel
    cases gk with
    | zero =>
      obtain ⟨e, h8, _, l, hb, hr, _⟩ := hn
      subst e
      obtain ⟨lb, lo, lc, lcs, lfr, rfl, hlbk, hlc⟩ := ReadE.where hr (by simpa using hs0)
      obtain ⟨n0, n1, _, _⟩ := node_cells hb
      have hlb := lt_of_block hb
      have hlk := lt_of_block hlbk
      rw [HYI.out] at hM
      obtain ⟨hx0, hx1⟩ := ReadE.entry hr hM
      have hpp : (p : Int) < (M.length : Int) := by omega
      clear hr hb hlbk hM
      go_wp2_with fail
      exact at_ret (p := w0.heap.size) (e := y) rfl (set2_obj HRB.out y) rfl rfl ⟨rfl, set2_same HSB.out (fun h => absurd h (Nat.lt_irrefl _)) y⟩
    | succ m =>
      obtain ⟨h8, _, _, kv, ks, hs, hb, hr, _, rfl, hk⟩ := hn
      subst hs
      obtain ⟨kb, ko, kc, kcs, kfr, rfl, hkb, hkc⟩ := hr.where (by simpa using hs0)
      have hlenV : (kidsV ks).length = ks.length := by simp
      rw [hlenV] at hr hb hkc
      obtain ⟨n0, n1, _, _⟩ := node_cells hb
      have hlb := lt_of_block hb
      have hlk := lt_of_block hkb
      have HD := Lib.hid (down_kids (i := p) hb hr (fun c hc => (hk c hc).2) hs0 h8 (by omega) (by omega))
      have HR := Lib.hid hr; have HK := Lib.hid hk; have HM := Lib.hid hM
      have hkn : (0 : Int) < (ks.length : Int) := by omega
      clear hr hb hk hkb hM n0
      go_wp2_with fail
      refine HD.out.mono ?_
      rintro e w9 ⟨rfl, j, q, x, rfl, hkj, hj, hip, _, hq⟩
      have hjj : (j : Int) < (ks.length : Int) := by omega
      have hqx := hq hp
      have hx := HR.out.cell (j := j) (x := .pointer (some ⟨x.b, 0, none⟩)) (by simp [hkj])
      have hxm := List.mem_of_getElem? hkj
      have hxl := kid_le hxm
      have hMx : x.L[q]? = L[i]? := by
        rw [← HM.out, kids_split hkj, hip, List.getElem?_append_right (by omega), Nat.add_sub_cancel_left, List.getElem?_append_left hqx]
      have HMX := Lib.hid hMx; have HX := Lib.hid (HK.out x hxm); have HXL := Lib.hid hxl; have HIP := Lib.hid hip; have HML := Lib.hid hML
      clear hkj hip hq hxm hMx hxl hML
      go_wp2_with fail
      go_roundg m
      case measure => omega
      case rel => exact ⟨x.b, x.s, q, x.L, rfl, rfl, HX.out.2, by have := HX.out.1; omega, hqx, HMX.out, by have := HXL.out; have := HML.out; omega, rfl⟩

end Go.Proofs.YtgfmemggfbgjeaaGreatDoor
