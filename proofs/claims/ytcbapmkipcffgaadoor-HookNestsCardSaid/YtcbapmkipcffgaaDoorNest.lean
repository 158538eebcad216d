/-
  nest: user code that calls user code. Conditions: none but small numbers.
-/
import Derived.Test.YtcbapmkipcffgaaDoorHookKnown
import Derived.Deep.RegionHeld3
namespace Go.Proofs.YtcbapmkipcffgaaDoor
open Go.RowKit Go.Extern.Stop Go.Stop Go.Extern Go.Lib

/-- What each level has caught when the m inner ones are done. -/
def caughtL (N k : Nat) : Nat → List Int → List Int
  | 0, xs => xs
  | m + 1, xs => (caughtL N k m xs).set (N - (m + 1)) (if N - (m + 1) = k then 900 + (k : Int) else 0)

theorem caughtL_length (N k : Nat) : ∀ m xs, (caughtL N k m xs).length = xs.length
  | 0, _ => rfl
  | m + 1, xs => by rw [caughtL, List.length_set, caughtL_length N k m xs]

/-- A row of ints in one block. -/
def Ints (w : World) (g : Nat) (xs : List Int) : Prop := w.heap[g]? = some (.cells (xs.map (Value.int .i64)).toArray 3 (0, 0))

theorem Ints.set {w : World} {g : Nat} {xs : List Int} (h : Ints w g xs) (i : Nat) (v : Int) : Ints (w.setCell ⟨g, i, none⟩ (.int .i64 v)) g (xs.set i v) := by
  unfold Ints at *
  simp [World.setCell, Array.getElem?_modify, h, List.map_set]

theorem Ints.cell {w : World} {g : Nat} {xs : List Int} (h : Ints w g xs) (i : Nat) (hi : i < xs.length) : w.cell? ⟨g, i, none⟩ = some (.int .i64 (xs[i])) := by
  unfold Ints at h
  simp [World.cell?, h, hi]

theorem Ints.free {w : World} {g : Nat} {xs : List Int} (h : Ints w g xs) (i : Nat) : w.frozen? ⟨g, i, none⟩ = false := by
  unfold Ints at h
  simp [World.frozen?, h]

theorem Ints.same {F : Nat → Prop} {w w' : World} {g : Nat} {xs : List Int} (h : Ints w g xs) (hs : Same F w w') (hn : ¬ F g) : Ints w' g xs := hs.obj h hn
theorem Ints.lt {w : World} {g : Nat} {xs : List Int} (h : Ints w g xs) : g < w.heap.size := lt_of_block h

theorem Same.drew {F : Nat → Prop} {w w1 : World} (h : Same F w w1) : Same F w w1.drew := ⟨h.os, h.tape, h.output, h.size, h.block⟩

theorem cell_same {w w' : World} {a : Addr} {v : Value} (hs : Same (fun _ => False) w w') (h : w.cell? a = some v) : w'.cell? a = some v := by
  have hlt : a.block < w.heap.size := by
    rcases Nat.lt_or_ge a.block w.heap.size with h1 | h1
    · exact h1
    · simp [World.cell?, Array.getElem?_eq_none h1] at h
  exact (World.cell?_of_block (hs.block _ hlt id)).trans h

theorem frozen_same {w w' : World} {a : Addr} {v : Value} {b : Bool} (hs : Same (fun _ => False) w w') (h : w.cell? a = some v) (hf : w.frozen? a = b) : w'.frozen? a = b := by
  have hlt : a.block < w.heap.size := by
    rcases Nat.lt_or_ge a.block w.heap.size with h1 | h1
    · exact h1
    · simp [World.cell?, Array.getElem?_eq_none h1] at h
  rw [← hf]
  simp [World.frozen?, hs.block _ hlt id]

theorem enter53 (args : Array Value) (w : World) : (callFunc 53 args).run Tryd.prog w = .ok (.enter 53 args) w := by kernel_rfl

/-- What nest tells at a level. -/
def NestSays (N k m : Nat) (e : Ending) (w' : World) : Prop :=
  if m ≠ 0 ∧ N - m = k then ∃ p, e = .returned (faultV p) ∧ w'.heap[p]? = some (faultObj ⟨#[120]⟩ .nilIface (.iface 3 (.int .i64 (900 + k)))) else e = .returned .nilIface

def NestDoes (N k m : Nat) : Prop := ∀ (w : World) (g cap : Nat) (xs : List Int), Ints w g xs → xs.length = N → Handle w → 0 ≠ g →
  Calls Tryd.prog 13 #[.int .i64 m, .int .i64 k, .slice (some ⟨g, 0, none⟩) N cap] w fun e w' => NestSays N k m e w' ∧ Same (fun j => j = g) w w' ∧ Ints w' g (caughtL N k m xs)

set_option maxHeartbeats 1000000 in
theorem nest_zero (N k : Nat) (hN : N ≤ 100) : NestDoes N k 0 := by
  intro w g cap xs hi hl hg hne
  have hs := ((((Same.refl (fun j => j = g) w).alloc (.cells #[.int .i64 0] 3)).alloc (.cells #[.int .i64 k] 3)).alloc (.cells #[.slice (some ⟨g, 0, none⟩) N cap] 23)).alloc (.cells #[.int .i64 (N : Int)] 3)
  have hi2 := hi.same (((((Same.refl (fun _ => False) w).alloc (.cells #[.int .i64 0] 3)).alloc (.cells #[.int .i64 k] 3)).alloc (.cells #[.slice (some ⟨g, 0, none⟩) N cap] 23)).alloc (.cells #[.int .i64 (N : Int)] 3)) id
  have HS := Lib.hid hs; have HI := Lib.hid hi2
  clear hs hi2 hi hg
  go_enter Tryd.func13, Tryd.ntmps13
  go_wp2_with fail
  go_ret
  exact ⟨by simp [NestSays], HS.out, HI.out⟩

set_option maxHeartbeats 1000000 in
/-- The closure at a level. -/
theorem nest1_does {N k m : Nat} (hN : N ≤ 100) (hm : m + 1 ≤ N) (hk : k < N) (ih : NestDoes N k m) (w : World) (g cap bn bk bc bi : Nat) (xs : List Int) (hi : Ints w g xs) (hl : xs.length = N) (hg : Handle w) (hne : 0 ≠ g)
    (hn : One w bn (.int .i64 ((m + 1 : Nat) : Int)) 3) (hkk : One w bk (.int .i64 (k : Int)) 3) (hc : One w bc (.slice (some ⟨g, 0, none⟩) N cap) 23) (hii : One w bi (.int .i64 ((N - (m + 1) : Nat) : Int)) 3)
    (_gn : bn ≠ g) (gk : bk ≠ g) (_gc : bc ≠ g) (gi : bi ≠ g) :
    Calls Tryd.prog 53 #[.pointer (some ⟨bn, 0, none⟩), .pointer (some ⟨bk, 0, none⟩), .pointer (some ⟨bc, 0, none⟩), .pointer (some ⟨bi, 0, none⟩)] w fun e w' =>
      (if N - (m + 1) = k then e = .panicked [{ v := .iface 3 (.int .i64 (900 + k)), recovered := false }] else e = .returned .nilIface) ∧ Same (fun j => j = g) w w' ∧ Ints w' g (caughtL N k m xs) := by
  have HI := Lib.hid (ih w g cap xs hi hl hg hne)
  have c0 := hn.cell
  have c1 := hkk.cell
  have c2 := hc.cell
  have c3 := hii.cell
  have HK := Lib.hid hkk; have HII := Lib.hid hii
  clear hi hl hg hn hkk hc hii ih
  go_enter Tryd.func53, Tryd.ntmps53
  go_wp2_with fail
  refine HI.out.mono ?_
  rintro e w1 ⟨hsay, hs, hx⟩
  have d1 := (hs.one HK.out gk).cell
  have d3 := (hs.one HII.out gi).cell
  have HS := Lib.hid hs; have HX := Lib.hid hx
  clear hs hx HI HK HII c0 c1 c2 c3
  unfold NestSays at hsay
  by_cases hin : m ≠ 0 ∧ N - m = k
  · rw [if_pos hin] at hsay
    obtain ⟨p, rfl, _⟩ := hsay
    have hnk : ¬ N - (m + 1) = k := by omega
    clear hin
    go_wp2_with fail
    go_ret
    exact ⟨rfl, HS.out, HX.out⟩
  · rw [if_neg hin] at hsay
    subst hsay
    clear hin
    by_cases hik : N - (m + 1) = k
    · have e1 : (((N - (m + 1) : Nat) : Int) == (k : Int)) = true := by simp; omega
      have e2 : ((N - (m + 1) : Nat) : Int) = (k : Int) := by omega
      clear hik
      go_wp2_with fail
      exact ⟨rfl, rfl, HS.out, HX.out⟩
    · have e1 : (((N - (m + 1) : Nat) : Int) == (k : Int)) = false := by simp; omega
      have e2 : ¬ ((N - (m + 1) : Nat) : Int) = (k : Int) := by omega
      clear hik
      go_wp2_with fail
      go_ret
      exact ⟨rfl, HS.out, HX.out⟩

/-- What a drawn region keeps: the error's own block, the handle, all but the row. -/
structure NS (w2 : World) (g : Nat) (ep : Option (Nat × Obj)) (w' : World) : Prop where
  hand : Handle w'
  same : Same (fun j => j = g) w2 w'
  err : ∀ q o, ep = some (q, o) → w'.heap[q]? = some o

theorem NS.drew {w2 w' : World} {g : Nat} {ep : Option (Nat × Obj)} (h : NS w2 g ep w') : NS w2 g ep w'.drew := ⟨h.hand, h.same.drew, h.err⟩
theorem NS.call {w2 w' w'' : World} {g : Nat} {ep : Option (Nat × Obj)} (h : NS w2 g ep w') (hs : Same (fun _ => False) w' w'') : NS w2 g ep w'' :=
  ⟨h.hand.same hs id, h.same.trans hs (fun _ _ h => h.elim), fun q o e => hs.obj (h.err q o e) id⟩
theorem NS.set {w2 w' : World} {g i : Nat} {ep : Option (Nat × Obj)} {v : Value} (h : NS w2 g ep w') (hne : 0 ≠ g) (hq : ∀ q o, ep = some (q, o) → q ≠ g) : NS w2 g ep (w'.setCell ⟨g, i, none⟩ v) :=
  ⟨h.hand.same ((Same.refl (fun j => j = g) w').setCell (p := ⟨g, i, none⟩) (fun _ => rfl) v) hne, h.same.setCell (p := ⟨g, i, none⟩) (fun _ => rfl) v, fun q o e => (Below.heap_setCell _ _ _ _ (hq q o e)).trans (h.err q o e)⟩

theorem cell_far {w : World} {g i b : Nat} {u v : Value} (h : w.cell? ⟨b, 0, none⟩ = some v) (hb : b ≠ g) : (w.setCell ⟨g, i, none⟩ u).cell? ⟨b, 0, none⟩ = some v :=
  (World.cell?_of_block (a := ⟨b, 0, none⟩) (Below.heap_setCell _ _ _ _ hb)).trans h

/-- The four cells that a level lays. -/
abbrev boxes (w : World) (m k N g cap : Nat) : World :=
  (((w.alloc (.cells #[.int .i64 ((m + 1 : Nat) : Int)] 3)).alloc (.cells #[.int .i64 (k : Int)] 3)).alloc (.cells #[.slice (some ⟨g, 0, none⟩) N cap] 23)).alloc (.cells #[.int .i64 ((N - (m + 1) : Nat) : Int)] 3)

set_option maxRecDepth 1000000 in
set_option maxHeartbeats 4000000 in
theorem nest_succ (N k m : Nat) (hN : N ≤ 100) (hm : m + 1 ≤ N) (hk : k < N) (ih : NestDoes N k m) : NestDoes N k (m + 1) := by
  intro w g cap xs hi hl hg hne
  have hgl := hi.lt
  have hb := (((((Same.refl (fun _ => False) w).alloc (.cells #[.int .i64 ((m + 1 : Nat) : Int)] 3)).alloc (.cells #[.int .i64 (k : Int)] 3)).alloc (.cells #[.slice (some ⟨g, 0, none⟩) N cap] 23)).alloc (.cells #[.int .i64 ((N - (m + 1) : Nat) : Int)] 3))
  have hB : boxes w m k N g cap = boxes w m k N g cap := rfl
  obtain ⟨W, hW⟩ : ∃ W, W = boxes w m k N g cap := ⟨_, rfl⟩
  have hn : One W w.heap.size (.int .i64 ((m + 1 : Nat) : Int)) 3 := by rw [hW]; exact (((One.new w _ _).alloc _).alloc _).alloc _
  have hkk : One W (w.heap.size + 1) (.int .i64 (k : Int)) 3 := by rw [hW]; have := ((One.new (w.alloc (.cells #[.int .i64 ((m + 1 : Nat) : Int)] 3)) (.int .i64 (k : Int)) 3).alloc (.cells #[.slice (some ⟨g, 0, none⟩) N cap] 23)).alloc (.cells #[.int .i64 ((N - (m + 1) : Nat) : Int)] 3); simpa only [alloc_size] using this
  have hc : One W (w.heap.size + 1 + 1) (.slice (some ⟨g, 0, none⟩) N cap) 23 := by rw [hW]; have := (One.new ((w.alloc (.cells #[.int .i64 ((m + 1 : Nat) : Int)] 3)).alloc (.cells #[.int .i64 (k : Int)] 3)) (.slice (some ⟨g, 0, none⟩) N cap) 23).alloc (.cells #[.int .i64 ((N - (m + 1) : Nat) : Int)] 3); simpa only [alloc_size] using this
  have hii : One W (w.heap.size + 1 + 1 + 1) (.int .i64 ((N - (m + 1) : Nat) : Int)) 3 := by rw [hW]; have := One.new (((w.alloc (.cells #[.int .i64 ((m + 1 : Nat) : Int)] 3)).alloc (.cells #[.int .i64 (k : Int)] 3)).alloc (.cells #[.slice (some ⟨g, 0, none⟩) N cap] 23)) (.int .i64 ((N - (m + 1) : Nat) : Int)) 3; simpa only [alloc_size] using this
  have hsW : Same (fun _ => False) w W := by rw [hW]; exact hb
  have hr := run3_same W ⟨#[120]⟩
  have hclo := nest1_does hN hm hk ih (run3 W ⟨#[120]⟩) g cap w.heap.size (w.heap.size + 1) (w.heap.size + 1 + 1) (w.heap.size + 1 + 1 + 1) xs ((hi.same hsW id).same hr id) hl ((hg.same hsW id).same hr id) hne
    (hr.one hn id) (hr.one hkk id) (hr.one hc id) (hr.one hii id) (by omega) (by omega) (by omega) (by omega)
  have hrun := run_any (wh := ⟨#[120]⟩) (w := W) (R := fun e w2 => (if N - (m + 1) = k then e = .panicked [{ v := .iface 3 (.int .i64 (900 + k)), recovered := false }] else e = .returned .nilIface) ∧ Ints w2 g (caughtL N k m xs)) (F := fun j => j = g)
    (fun j hj => by rw [hj]; exact Nat.lt_of_lt_of_le hgl hsW.size) enter53
    (hclo.mono fun e w2 ⟨h1, h2, h3⟩ => ⟨h2, ⟨h1, h3⟩, by
      by_cases hx : N - (m + 1) = k
      · rw [if_pos hx] at h1
        exact Or.inr (Or.inr ⟨_, _, by decide, h1⟩)
      · rw [if_neg hx] at h1
        exact Or.inl h1⟩)
  have HW := Lib.hid hW; have HN1 := Lib.hid hn; have HC1 := Lib.hid hc; have HI1 := Lib.hid hii; have HSW := Lib.hid hsW; have HRUN := Lib.hid hrun; have HG := Lib.hid hg; have HL := Lib.hid hl; have HI := Lib.hid hi
  have hN1 : (N : Int) - ((m : Int) + 1) = ((N - (m + 1) : Nat) : Int) := by omega
  clear hi hl hg hb hB hW hn hkk hc hii hsW hr hclo hrun ih
  go_enter Tryd.func13, Tryd.ntmps13
  go_wp2_with fail
  have hW2 : W = (((w.alloc (.cells #[.int .i64 ((m : Int) + 1)] 3)).alloc (.cells #[.int .i64 (k : Int)] 3)).alloc (.cells #[.slice (some ⟨g, 0, none⟩) N cap] 23)).alloc (.cells #[.int .i64 ((N - (m + 1) : Nat) : Int)] 3) := by
    rw [HW.out, boxes, show ((m + 1 : Nat) : Int) = (m : Int) + 1 by omega]
  rw [← hW2]
  clear hW2
  refine HRUN.out.mono ?_
  rintro e w2 ⟨e0, w0, ⟨hif, hx⟩, hs0, hs1, ht⟩
  have hWs : W.heap.size = w.heap.size + 4 := by rw [HW.out]; simp
  have hng : ¬ (W.heap.size ≤ g ∧ g < W.heap.size + 3) := by omega
  have q1 := (hs1.one (hs0.one HC1.out (by omega)) (by omega)).cell
  have q2 := (hs1.one (hs0.one HI1.out (by omega)) (by omega)).cell
  have hx2 := hx.same hs1 hng
  have hg2 := ((HG.out.same HSW.out id).same hs0 hne).same hs1 (by have := HG.out.lt; omega)
  have hsA : Same (fun j => j = g) w w2 := ((HSW.out.weaken (F' := fun j => j = g) (fun _ _ h => h.elim)).trans hs0 (fun _ _ h => h)).trans hs1 (fun j hj h => by omega)
  have hs02 := hs1.size
  have HX2 := Lib.hid hx2; have HSA := Lib.hid hsA
  have hlen : (caughtL N k m xs).length = N := by rw [caughtL_length, HL.out]
  have HLEN := Lib.hid hlen
  have q5 := hx2.free (N - (m + 1))
  have q4 := hx2.cell (N - (m + 1)) (by omega)
  obtain ⟨old, hold⟩ : ∃ o, o = (caughtL N k m xs)[N - (m + 1)]'(by omega) := ⟨_, rfl⟩
  rw [← hold] at q4
  have hlt1 : ((N - (m + 1) : Nat) : Int) < (N : Int) := by omega
  have hlt2 : N - (m + 1) < N := by omega
  have hbc : w.heap.size + 1 + 1 < w2.heap.size := lt_of_block (hs1.one (hs0.one HC1.out (by omega)) (by omega))
  have hbi : w.heap.size + 1 + 1 + 1 < w2.heap.size := lt_of_block (hs1.one (hs0.one HI1.out (by omega)) (by omega))
  have hgl2 : g < w2.heap.size := hx2.lt
  clear hx hs0 hs1 hx2 hsA hlen hold HRUN HC1 HI1 HSW HN1 HW hWs hng
  by_cases hik : N - (m + 1) = k
  · rw [if_pos hik] at hif
    subst hif
    rcases ht with ⟨h, _⟩ | ⟨D, x, p, h, _⟩ | ⟨T, x, p, h, rfl, ho⟩
    · cases h
    · cases h
    · simp only [Ending.panicked.injEq, List.cons.injEq, PanicEntry.mk.injEq, Value.iface.injEq, and_true] at h
      obtain ⟨rfl, rfl⟩ := h
      have hpg : p ≠ g := fun e => by
        subst e
        have := HX2.out
        unfold Ints at this
        rw [ho] at this
        simp only [Option.some.injEq, Obj.cells.injEq] at this
        exact absurd this.2.1 (by decide)
      have hst : ∀ w', NS w2 g (some (p, faultObj ⟨#[120]⟩ .nilIface (.iface 3 (.int .i64 (900 + (k : Int)))))) w' → Calls Tryd.prog 14 #[faultV p] w' fun e w'' => e = .returned (.int .i64 (900 + (k : Int))) ∧ Same (fun _ => False) w' w'' := fun w' h => struck_int (h.err p _ rfl) h.hand
      have hns : NS w2 g (some (p, faultObj ⟨#[120]⟩ .nilIface (.iface 3 (.int .i64 (900 + (k : Int)))))) w2 := ⟨hg2, Same.refl _ _, fun q o e => by cases e; exact ho⟩
      have hq : ∀ q o, (some (p, faultObj ⟨#[120]⟩ .nilIface (.iface 3 (.int .i64 (900 + (k : Int))))) : Option (Nat × Obj)) = some (q, o) → q ≠ g := fun q o e => by cases e; exact hpg
      have HST := Lib.hid hst; have HO := Lib.hid ho; have HQ := Lib.hid hq
      have HIK := Lib.hid hik
      clear hst ho hg2 hik HG hq
      go_wp2_with fail
      go_region_held3 (fun w' => w'.cell? ⟨w.heap.size + 1 + 1, 0, none⟩ = some (.slice (some ⟨g, 0, none⟩) N cap) ∧ w'.cell? ⟨w.heap.size + 1 + 1 + 1, 0, none⟩ = some (.int .i64 ((N - (m + 1) : Nat) : Int)) ∧ NS w2 g (some (p, faultObj ⟨#[120]⟩ .nilIface (.iface 3 (.int .i64 (900 + (k : Int)))))) w')
        (first | exact ⟨by assumption, by assumption, by assumption⟩ | exact ⟨by assumption, by assumption, NS.drew (by assumption)⟩ | exact ⟨cell_far (by assumption) (by omega), cell_far (by assumption) (by omega), NS.set (by assumption) hne HQ.out⟩)
        (first | (go_at_call 14; refine (HST.out _ (by first | assumption | exact NS.drew hns)).mono ?_; rintro e w' ⟨rfl, hs'⟩; have k1 := cell_same (a := ⟨w.heap.size + 1 + 1, 0, none⟩) hs' (by first | exact q1 | assumption); have k2 := cell_same (a := ⟨w.heap.size + 1 + 1 + 1, 0, none⟩) hs' (by first | exact q2 | assumption); have k3 := NS.call (by first | assumption | exact NS.drew hns) hs'; have k4 := cell_same (a := ⟨g, N - (m + 1), none⟩) hs' (by first | exact q4 | assumption); have k5 := frozen_same (a := ⟨g, N - (m + 1), none⟩) hs' (by first | exact q4 | assumption) (by first | exact q5 | assumption)))
      have hs2 : Same (fun _ => False) w2 w' := ((Same.refl (fun _ => False) w2).drew).trans hs' (fun _ _ h => h)
      have hrow := (HX2.out.same hs2 id).set (N - (m + 1)) (900 + (k : Int))
      have hsam : Same (fun j => j = g) w (w'.setCell ⟨g, N - (m + 1), none⟩ (.int .i64 (900 + (k : Int)))) := (HSA.out.trans hs2 (fun _ _ h => h.elim)).setCell (p := ⟨g, N - (m + 1), none⟩) (fun _ => rfl) _
      have herr : NestSays N k (m + 1) (.returned (faultV p)) (w'.setCell ⟨g, N - (m + 1), none⟩ (.int .i64 (900 + (k : Int)))) := by
        unfold NestSays
        rw [if_pos ⟨by omega, HIK.out⟩]; exact ⟨p, rfl, (Below.heap_setCell _ _ _ _ hpg).trans (k3.err p _ rfl)⟩
      have hcl : caughtL N k (m + 1) xs = (caughtL N k m xs).set (N - (m + 1)) (900 + (k : Int)) := by rw [caughtL, if_pos HIK.out]
      rw [← hcl] at hrow
      have HROW := Lib.hid hrow; have HSAM := Lib.hid hsam; have HERR := Lib.hid herr
      clear hs' hs2 hrow hsam herr k1 k2 k3 k4 k5 hcl hns q1 q2 q4 q5 HX2 HSA HST HLEN
      go_wp2_with fail
      go_ret
      exact ⟨HERR.out, HSAM.out, HROW.out⟩
  · rw [if_neg hik] at hif
    subst hif
    rcases ht with ⟨_, rfl⟩ | ⟨D, x, p, h, _⟩ | ⟨T, x, p, h, _⟩
    · have hst : ∀ w', NS w2 g none w' → Calls Tryd.prog 14 #[.nilIface] w' fun e w'' => e = .returned (.int .i64 0) ∧ Same (fun _ => False) w' w'' := fun w' _ => struck_nil w'
      have hns : NS w2 g none w2 := ⟨hg2, Same.refl _ _, fun q o e => by cases e⟩
      have hq : ∀ q o, (none : Option (Nat × Obj)) = some (q, o) → q ≠ g := fun q o e => by cases e
      have HST := Lib.hid hst; have HQ := Lib.hid hq
      have HIK := Lib.hid hik
      clear hst hg2 hik HG hq
      go_wp2_with fail
      go_region_held3 (fun w' => w'.cell? ⟨w.heap.size + 1 + 1, 0, none⟩ = some (.slice (some ⟨g, 0, none⟩) N cap) ∧ w'.cell? ⟨w.heap.size + 1 + 1 + 1, 0, none⟩ = some (.int .i64 ((N - (m + 1) : Nat) : Int)) ∧ NS w2 g none w')
        (first | exact ⟨by assumption, by assumption, by assumption⟩ | exact ⟨by assumption, by assumption, NS.drew (by assumption)⟩ | exact ⟨cell_far (by assumption) (by omega), cell_far (by assumption) (by omega), NS.set (by assumption) hne HQ.out⟩)
        (first | (go_at_call 14; refine (HST.out _ (by first | assumption | exact NS.drew hns)).mono ?_; rintro e w' ⟨rfl, hs'⟩; have k1 := cell_same (a := ⟨w.heap.size + 1 + 1, 0, none⟩) hs' (by first | exact q1 | assumption); have k2 := cell_same (a := ⟨w.heap.size + 1 + 1 + 1, 0, none⟩) hs' (by first | exact q2 | assumption); have k3 := NS.call (by first | assumption | exact NS.drew hns) hs'; have k4 := cell_same (a := ⟨g, N - (m + 1), none⟩) hs' (by first | exact q4 | assumption); have k5 := frozen_same (a := ⟨g, N - (m + 1), none⟩) hs' (by first | exact q4 | assumption) (by first | exact q5 | assumption)))
      have hs2 : Same (fun _ => False) w2 w' := ((Same.refl (fun _ => False) w2).drew).trans hs' (fun _ _ h => h)
      have hrow := (HX2.out.same hs2 id).set (N - (m + 1)) (0)
      have hsam : Same (fun j => j = g) w (w'.setCell ⟨g, N - (m + 1), none⟩ (.int .i64 (0))) := (HSA.out.trans hs2 (fun _ _ h => h.elim)).setCell (p := ⟨g, N - (m + 1), none⟩) (fun _ => rfl) _
      have herr : NestSays N k (m + 1) (.returned .nilIface) (w'.setCell ⟨g, N - (m + 1), none⟩ (.int .i64 (0))) := by
        unfold NestSays
        rw [if_neg (fun h => HIK.out h.2)]
      have hcl : caughtL N k (m + 1) xs = (caughtL N k m xs).set (N - (m + 1)) (0) := by rw [caughtL, if_neg HIK.out]
      rw [← hcl] at hrow
      have HROW := Lib.hid hrow; have HSAM := Lib.hid hsam; have HERR := Lib.hid herr
      clear hs' hs2 hrow hsam herr k1 k2 k3 k4 k5 hcl hns q1 q2 q4 q5 HX2 HSA HST HLEN
      go_wp2_with fail
      go_ret
      exact ⟨HERR.out, HSAM.out, HROW.out⟩
    · cases h
    · cases h

end Go.Proofs.YtcbapmkipcffgaaDoor
