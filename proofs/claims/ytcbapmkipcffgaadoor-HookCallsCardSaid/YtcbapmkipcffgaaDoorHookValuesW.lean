/-
  HookValues: the walk: it answers true and turns nothing that was there. Condition: the variable that errors.As reads holds the type of error.
-/
import Derived.Test.YtcbapmkipcffgaaDoorHookValues
namespace Go.Proofs.YtcbapmkipcffgaaDoor
open Go.RowKit Go.Extern.Stop Go.Stop Go.Extern Go.Lib
set_option maxRecDepth 1000000

theorem SameW.of {W w : World} (h : Same (fun _ => False) W w) : Same (fun k => W.heap.size ≤ k) W w := h.weaken (fun _ _ h => h.elim)

theorem SameW.trans {F : Nat → Prop} {W w w' : World} (h : Same (fun k => W.heap.size ≤ k) W w) (g : Same F w w') (hF : ∀ k, k < W.heap.size → ¬ F k) : Same (fun k => W.heap.size ≤ k) W w' :=
  Same.trans h g (fun k hk hk' => absurd hk' (hF k hk))

set_option maxHeartbeats 8000000 in
theorem hookValues_any {W : World} {y : V} {v : Value} {L : List V} (hy : y.ok) (hr : ReadV W v L) (hok : ∀ x ∈ L, x.ok) (hn : L.length ≤ maxLen) (hg : Handle W) :
    Calls Tryd.prog 6 #[y.val, v] W fun e w' => e = .returned (.bool true) ∧ Below W.heap.size W w' := by
  have hs0 : Same (fun _ => False) W (W.alloc y.obj) := (Same.refl _ W).alloc _
  have HB0 := Lib.hid (heap_alloc_new W y.obj); have HS0 := Lib.hid hs0; have HR := Lib.hid hr; have HOK := Lib.hid hok; have HN := Lib.hid hn; have HG := Lib.hid (hg.same hs0 id); have HGL := Lib.hid hg.lt; have HG0 := Lib.hid hg
  obtain ⟨vo, vc, rfl⟩ := readV_len hr
  clear hs0 hr hok hn hg
  go_enter Tryd.func6, Tryd.ntmps6
  go_wp2_with fail
  refine (known_any HG.out).mono ?_
  rintro e w1 ⟨rfl, hs1⟩
  have hb1 := hs1.obj HB0.out id
  obtain ⟨y0, y1, y2, y3⟩ := obj_cells hb1
  have H1 := Lib.hid (HS0.out.trans hs1 (fun _ _ h => h)); have HB1 := Lib.hid hb1
  clear hs1 hb1
  go_wp2_with fail
  have ha2 : Same (fun _ => False) W (w1.alloc y.obj) := H1.out.alloc _
  refine (few_any (ReadV.one w1 y 1) (fun x hx => by simp at hx; subst hx; exact hy) (by unfold maxLen; simp) 1).mono ?_
  rintro e w1' ⟨rfl, rfl⟩
  have H2 := Lib.hid ha2; have HB2 := Lib.hid (((Same.refl (fun _ => False) w1).alloc y.obj).obj HB1.out id)
  clear ha2 y0 y1 y2 y3
  rcases few_split (L := [y]) (m := 1) with hf | hf
  · rw [show (([y] : List V).length : Int) = 1 from rfl] at hf ⊢
    rw [hf]
    clear hf
    go_wp2_with fail
    go_ret
    exact ⟨rfl, same_to_below (SameW.of H2.out)⟩
  rw [show (([y] : List V).length : Int) = 1 from rfl] at hf ⊢
  rw [hf]
  clear hf
  go_wp2_with fail
  refine (few_any (HR.out.same H2.out) HOK.out HN.out 8).mono ?_
  rintro e w2' ⟨rfl, rfl⟩
  rcases few_split (L := L) (m := 8) with hf | hf
  · rw [hf]
    clear hf
    go_wp2_with fail
    go_ret
    exact ⟨rfl, same_to_below (SameW.of H2.out)⟩
  have hL := few_many hf
  rw [hf]
  clear hf
  by_cases h0 : L.length = 0
  · have h0' : (L.length : Int) = 0 := by omega
    go_wp2_with fail
    go_ret
    exact ⟨rfl, same_to_below (SameW.of H2.out)⟩
  have h0' : ¬ (L.length : Int) = 0 := by omega
  have hL1 : 0 < L.length := by omega
  have HL8 := Lib.hid (show L.length ≤ 8 by omega); have HL1 := Lib.hid hL1
  clear hL hL1 h0
  go_wp2_with fail
  clear h0'
  generalize w1.alloc y.obj = w2 at *
  refine (hv_extract hy HB2.out).mono ?_
  rintro e w3 ⟨x, er, rfl, hs3, hend⟩
  have hs23 : Same (fun _ => False) W (w3.alloc x.obj) := (H2.out.trans hs3 (fun _ _ h => h)).alloc _
  have hx4 := heap_alloc_new w3 x.obj
  have hb4 := ((Same.refl (fun _ => False) w3).alloc x.obj).obj (hs3.obj HB2.out id) id
  have hend4 : (x = y ∧ er = .nilIface) ∨ ∃ p, er = faultV p ∧ (w3.alloc x.obj).heap[p]? = some (faultObj ⟨#[119]⟩ (.iface 46 (.int .i64 10)) .nilIface) := by
    rcases hend with h | ⟨p, h1, h2⟩
    · exact Or.inl h
    · exact Or.inr ⟨p, h1, ((Same.refl (fun _ => False) w3).alloc x.obj).obj h2 id⟩
  have H4 := Lib.hid hs23; have HX4 := Lib.hid hx4; have HB4 := Lib.hid hb4; have HE4 := Lib.hid hend4; have HX3 := Lib.hid (show w3.heap.size < (w3.alloc x.obj).heap.size by simp)
  have HSW := Lib.hid (show W.heap.size < w3.heap.size from Nat.lt_of_lt_of_le (lt_of_block HB2.out) hs3.size)
  clear hs3 hend hs23 hx4 hb4 hend4 H2 HB2 HB1 H1
  go_wp2_with fail
  generalize w3.alloc x.obj = w4 at *
  -- the copy that the mutator tells
  refine (copy_any (HR.out.same H4.out) (by have := HL8.out; omega)).mono ?_
  rintro e w5 ⟨t, rfl, ho5, hs5⟩
  obtain ⟨g, gc, rfl, hgB, hgl, hgn, hgm, ⟨cur, hgc⟩, _, _⟩ := own_first ho5 HL1.out
  have h46 : Same (fun _ => False) w4 (w5.alloc (.cells #[.slice (some ⟨g, 0, none⟩) L.length gc] 29)) := hs5.alloc _
  have ho6 := ((Same.refl (fun _ => False) w5).alloc (.cells #[.slice (some ⟨g, 0, none⟩) L.length gc] 29)).row ho5 (fun _ _ => id)
  have ht6 := One.new w5 (.slice (some ⟨g, 0, none⟩) L.length gc) 29
  have hgc6 := ((Same.refl (fun _ => False) w5).alloc (.cells #[.slice (some ⟨g, 0, none⟩) L.length gc] 29)).obj hgc id
  have H46 := Lib.hid h46; have HO6 := Lib.hid ho6; have HT6 := Lib.hid ht6; have HGC6 := Lib.hid hgc6
  have HG46 := Lib.hid (show w4.heap.size ≤ g ∧ g < w5.heap.size from ⟨hgB, hgl⟩)
  have h56 : w5.heap.size < (w5.alloc (.cells #[.slice (some ⟨g, 0, none⟩) L.length gc] 29)).heap.size := by simp
  have H56 := Lib.hid h56
  clear ho5 hs5 h46 ho6 ht6 hgc hgc6 h56 hgB hgl
  go_wp2_with fail
  generalize w5.alloc (.cells #[.slice (some ⟨g, 0, none⟩) L.length gc] 29) = w6 at *
  refine (hv_mutate (L := L) (by have := HL8.out; omega) HT6.out (ReadV.own HO6.out) (fun b off e => by cases e; have := HG46.out; have := H56.out; omega)).mono ?_
  rintro e w7 ⟨m, rfl, hs7, hm7⟩
  obtain ⟨mo, mc, rfl⟩ := readV_len (ReadV.own hm7)
  have H47 := Lib.hid (H46.out.trans hs7 (fun _ _ h => h)); have HM7 := Lib.hid hm7; have HO7 := Lib.hid (hs7.row HO6.out (fun _ _ => id)); have HT7 := Lib.hid (hs7.one HT6.out id); have HGC7 := Lib.hid (hs7.obj HGC6.out id)
  clear hs7 hm7 H46 HO6 HT6 HGC6
  go_wp2_with fail
  refine (vals_self (ReadV.own HM7.out) (HR.out.same (H4.out.trans H47.out (fun _ _ h => h))) HOK.out HN.out).mono ?_
  rintro e w8 ⟨rfl, hs8⟩
  have H48 := Lib.hid (H47.out.trans hs8 (fun _ _ h => h)); have HM8 := Lib.hid (hs8.row HM7.out (fun _ _ => id)); have HO8 := Lib.hid (hs8.row HO7.out (fun _ _ => id)); have HGC8 := Lib.hid (hs8.obj HGC7.out id)
  have c8 := (hs8.one HT7.out id).cell
  clear hs8 H47 HM7 HO7 HT7 HGC7
  obtain ⟨g', gc', e1, _, _, hn1, hm1, _, ff, fq⟩ := own_first HO8.out HL1.out
  cases e1
  obtain ⟨q0, k0⟩ := fq 0 (by omega)
  obtain ⟨q1, k1⟩ := fq 1 (by omega)
  obtain ⟨q2, k2⟩ := fq 2 (by omega)
  obtain ⟨q3, k3⟩ := fq 3 (by omega)
  have hl0 : (0 : Int) < (L.length : Int) := by have := HL1.out; omega
  unfold maxLen at hgm
  clear fq hm1 hn1
  have hset : Same (fun k => k = g) w8 (vset4 w8 g ⟨99, 0, ⟨#[]⟩, 0⟩) := vset4_same (Same.refl (fun k => k = g) w8) (fun _ => rfl) _
  have hS9 : Same (fun k => W.heap.size ≤ k) W (vset4 w8 g ⟨99, 0, ⟨#[]⟩, 0⟩) := SameW.trans (SameW.of (H4.out.trans H48.out (fun _ _ h => h))) hset (fun k hk e => by have := HG46.out; have := HSW.out; have := HX3.out; omega)
  have hm9 := hset.row HM8.out (fun k hk e => by have h1 := (HM8.out.lt k hk).1; have := HG46.out; have := H56.out; omega)
  have h49 : Same (fun k => k = g) w4 (vset4 w8 g ⟨99, 0, ⟨#[]⟩, 0⟩) := (H48.out.weaken (fun _ _ h => h.elim)).trans hset (fun _ _ h => h)
  have HS9 := Lib.hid hS9; have HM9 := Lib.hid hm9; have H49 := Lib.hid h49
  clear hset hS9 hm9 h49
  go_wp2_with fail
  clear ff k0 k1 k2 k3 c8 hl0
  generalize hw9 : vset4 w8 g ⟨99, 0, ⟨#[]⟩, 0⟩ = w9 at *
  have hw9' : (((w8.setCell ⟨g, 0, none⟩ (.int .i64 99)).setCell ⟨g, 1, none⟩ (.int .i64 0)).setCell ⟨g, 2, none⟩ (.string ⟨#[]⟩)).setCell ⟨g, 3, none⟩ (.float .f64 0) = w9 := hw9
  rw [hw9']
  clear hw9 hw9'
  refine (vals_self (ReadV.own HM9.out) (HR.out.keep HS9.out) HOK.out HN.out).mono ?_
  rintro e w10 ⟨rfl, hs10⟩
  have H10 := Lib.hid (H49.out.trans hs10 (fun _ _ h => h.elim)); have HS10 := Lib.hid (SameW.trans HS9.out hs10 (fun _ _ => id))
  clear hs10 H49 HM9 HM8 HS9 HO8 HGC8 H48
  have hx10 := H10.out.obj HX4.out (by have := HG46.out; have := HX3.out; omega)
  have hb10 := H10.out.obj HB4.out (by have := HG46.out; have := HX3.out; have := HSW.out; omega)
  have hh10 := HG0.out.same HS10.out (by have := HGL.out; omega)
  have HX10 := Lib.hid hx10; have HB10 := Lib.hid hb10; have HH10 := Lib.hid hh10
  obtain ⟨x0, x1, x2, x3⟩ := obj_cells hx10
  obtain ⟨y0, y1, y2, y3⟩ := obj_cells hb10
  have ly := lt_of_block hb10
  rcases HE4.out with ⟨rfl, rfl⟩ | ⟨p, rfl, hp⟩
  · clear hx10 hb10 hh10
    go_wp2_with fail
    have hA := (ReadV.one w10 x 1).same ((Same.refl (fun _ => False) (w10.alloc x.obj)).alloc x.obj)
    have hB := ReadV.one (w10.alloc x.obj) x 1
    rw [show (w10.alloc x.obj).heap.size = w10.heap.size + 1 by simp] at hB
    refine (vals_self hA hB (fun z hz => by simp at hz; subst hz; exact hy) (by unfold maxLen; simp)).mono ?_
    rintro e w11 ⟨rfl, hs11⟩
    have H11 := Lib.hid (SameW.trans (SameW.trans (SameW.trans HS10.out ((Same.refl (fun _ => False) w10).alloc x.obj) (fun _ _ => id)) ((Same.refl (fun _ => False) (w10.alloc x.obj)).alloc x.obj) (fun _ _ => id)) hs11 (fun _ _ => id))
    clear hA hB hs11
    go_wp2_with fail
    go_ret
    exact ⟨rfl, same_to_below H11.out⟩
  · have hp10 : w10.heap[p]? = some (faultObj ⟨#[119]⟩ (.iface 46 (.int .i64 10)) .nilIface) := H10.out.obj hp (by
      have := lt_of_block hp
      have := HG46.out
      omega)
    have HP10 := Lib.hid hp10
    clear hx10 hb10 hh10 hp hp10 x0 x1 x2 x3 y0 y1 y2 y3
    go_wp2_with fail
    refine (class_fault HP10.out (ok_errno 10 _) HH10.out).mono ?_
    rintro e w11 ⟨rfl, hs11⟩
    have HP11 := Lib.hid (hs11.obj HP10.out id); have HH11 := Lib.hid (HH10.out.same hs11 id); have H11 := Lib.hid (SameW.trans HS10.out hs11 (fun _ _ => id))
    clear hs11
    go_wp2_with fail
    refine (where_fault HP11.out (ok_errno 10 _) HH11.out).mono ?_
    rintro e w12 ⟨rfl, hs12⟩
    have H12 := Lib.hid (SameW.trans H11.out hs12 (fun _ _ => id))
    clear hs12
    go_wp2_with fail
    go_ret
    exact ⟨rfl, same_to_below H12.out⟩

end Go.Proofs.YtcbapmkipcffgaaDoor
