/-
  The statement UndoNests: the walk of the statement itself: it answers true and turns nothing that was there. Conditions: the argument is a slice of bools that can be read.
-/
import Derived.Test.YthofmccpfknjnaaUndoNests
import Derived.Deep.RegionWith
namespace Go.Proofs.Ythofmccpfknjnaa
open Go.RowKit

/-- The blocks that the statement lays behind the log. -/
def nestsCs (w : World) (p : Nat) (a0 : Option Addr) (len cap : Nat) (outer : Bool) : List (Nat × Obj) :=
  [(p + 3, addObj (p + 2) (p + 1)), (w.heap.size, .cells #[.slice a0 len cap] 34 (0, 0)), (p + 1, lObj p), (w.heap.size + 1, boolObj outer)]

def nestsWorld (w1 : World) : World :=
  (((w1.alloc (.cells #[.slice none 0 0] 43)).alloc (.cells #[.pointer (some ⟨w1.heap.size, 0, none⟩)] 24)).alloc (.cells #[.int .i64 0] 3)).alloc (addObj (w1.heap.size + 2) (w1.heap.size + 1))

theorem nests_size (w1 : World) : (nestsWorld w1).heap.size = w1.heap.size + 4 := by simp [nestsWorld]

theorem nests_at (w1 : World) : (nestsWorld w1).heap[w1.heap.size]? = some (.cells #[.slice none 0 0] 43 (0, 0)) ∧ One (nestsWorld w1) (w1.heap.size + 1) (.pointer (some ⟨w1.heap.size, 0, none⟩)) 24 ∧
    One (nestsWorld w1) (w1.heap.size + 2) (.int .i64 0) 3 ∧ (nestsWorld w1).heap[w1.heap.size + 3]? = some (addObj (w1.heap.size + 2) (w1.heap.size + 1)) := by
  refine ⟨(((One.new w1 _ _).alloc _).alloc _).alloc _, ?_, ?_, ?_⟩
  · have := ((One.new (w1.alloc (.cells #[.slice none 0 0] 43)) (.pointer (some ⟨w1.heap.size, 0, none⟩)) 24).alloc (.cells #[.int .i64 0] 3)).alloc (addObj (w1.heap.size + 2) (w1.heap.size + 1))
    simpa [nestsWorld] using this
  · have := (One.new ((w1.alloc (.cells #[.slice none 0 0] 43)).alloc (.cells #[.pointer (some ⟨w1.heap.size, 0, none⟩)] 24)) (.int .i64 0) 3).alloc (addObj (w1.heap.size + 2) (w1.heap.size + 1))
    simpa [nestsWorld] using this
  · have := heap_alloc_new (((w1.alloc (.cells #[.slice none 0 0] 43)).alloc (.cells #[.pointer (some ⟨w1.heap.size, 0, none⟩)] 24)).alloc (.cells #[.int .i64 0] 3)) (addObj (w1.heap.size + 2) (w1.heap.size + 1))
    simpa [nestsWorld] using this

theorem nests_same (w1 : World) : Same (fun _ => False) w1 (nestsWorld w1) := ((((Same.refl _ w1).alloc _).alloc _).alloc _).alloc _

theorem nestsCs_lt {w : World} {p : Nat} {a0 : Option Addr} {len cap : Nat} {outer : Bool} (hp : w.heap.size + 2 ≤ p) : ∀ x ∈ nestsCs w p a0 len cap outer, x.1 < p + 4 := by
  intro x hx
  simp only [nestsCs, List.mem_cons, List.not_mem_nil, or_false] at hx
  rcases hx with rfl | rfl | rfl | rfl <;> simp only <;> omega

theorem nests_start {w w1 : World} {a0 : Option Addr} {len cap : Nat} {outer : Bool}
    (hb : Below w.heap.size w w1) (hs : w.heap.size + 2 ≤ w1.heap.size) (hi : One w1 w.heap.size (.slice a0 len cap) 34) (ho : One w1 (w.heap.size + 1) (.bool outer) 4) :
    NJ w w.heap.size (w1.heap.size + 4) w1.heap.size (w1.heap.size + 2) (nestsCs w w1.heap.size a0 len cap outer) [] (nestsWorld w1) ∧ LogAtR (nestsWorld w1) w.heap.size (w1.heap.size + 4) w1.heap.size [] := by
  obtain ⟨h1, h2, h3, h4⟩ := nests_at w1
  have hsm := nests_same w1
  refine ⟨{ below := hsm.below hb (by omega) (fun _ h => h.elim), nB := by omega, np := by omega, all := fun f hf => (by cases hf), n := h3, cs := fun x hx => ?_, low := fun x hx => ?_, len := by simp, size := by rw [nests_size]; exact Nat.le_refl _ }, ⟨by omega, by omega, _, h1, World.ownsRow_nil _ _ _ _⟩⟩
  · simp only [nestsCs, List.mem_cons, List.not_mem_nil, or_false] at hx
    rcases hx with rfl | rfl | rfl | rfl
    · exact h4
    · exact hsm.one hi id
    · exact h2
    · exact hsm.one ho id
  · simp only [nestsCs, List.mem_cons, List.not_mem_nil, or_false] at hx
    rcases hx with rfl | rfl | rfl | rfl
    · exact ⟨by simp only; omega, by simp only; omega, Or.inl (by simp only; omega)⟩
    · exact ⟨by simp only; omega, by simp only; omega, Or.inr fun cur e => by cases e⟩
    · exact ⟨by simp only; omega, by simp only; omega, Or.inr fun cur e => by cases e⟩
    · exact ⟨by simp only; omega, by simp only; omega, Or.inr fun cur e => by cases e⟩

set_option maxRecDepth 10000000 in
set_option maxHeartbeats 2000000 in
theorem undoNests_any (a0 : Option Addr) (len cap : Nat) (outer : Bool) (w : World)
    (hsteps : 0 < len → ∃ b off, a0 = some ⟨b, off, none⟩ ∧ b < w.heap.size ∧ ∀ k, k < len → ∃ z : Bool, w.cell? ⟨b, off + k, none⟩ = some (.bool z)) :
    Calls Try.prog 5 #[.slice a0 len cap, .bool outer] w fun e w' => e = .returned (.bool true) ∧ Below w.heap.size w w' := by
  have HST := Lib.hid hsteps; clear hsteps
  have hbA : Below w.heap.size w ((w.alloc (.cells #[.slice a0 len cap] 34)).alloc (.cells #[.bool outer] 4)) := ((Below.refl _ w).alloc (Nat.le_refl _) _).alloc (by simp) _
  have hiA : One ((w.alloc (.cells #[.slice a0 len cap] 34)).alloc (.cells #[.bool outer] 4)) w.heap.size (.slice a0 len cap) 34 := (One.new _ _ _).alloc _
  have hoA : One ((w.alloc (.cells #[.slice a0 len cap] 34)).alloc (.cells #[.bool outer] 4)) (w.heap.size + 1) (.bool outer) 4 := by
    simpa using One.new (w.alloc (.cells #[.slice a0 len cap] 34)) (.bool outer) 4
  have HBA := Lib.hid hbA; have HIA := Lib.hid hiA; have HOA := Lib.hid hoA
  clear hbA hiA hoA
  go_enter Try.func5, Try.ntmps5
  go_wp2_with fail
  refine (known_any _).mono ?_
  rintro e w1 ⟨rfl, hb1⟩
  have hs1 : w.heap.size + 2 ≤ w1.heap.size := by have := hb1.size; simpa using this
  have hi1 : One w1 w.heap.size (.slice a0 len cap) 34 := (hb1.block _ (by simp; omega)).trans HIA.out
  have ho1 : One w1 (w.heap.size + 1) (.bool outer) 4 := (hb1.block _ (by simp)).trans HOA.out
  have ci1 := hi1.cell
  have HB1 := Lib.hid (HBA.out.trans (hb1.mono (by simp; omega))); have HI1 := Lib.hid hi1; have HO1 := Lib.hid ho1
  clear hb1 hi1 ho1 HBA HIA HOA
  by_cases h12 : 12 < len
  · go_wp2_with fail
    go_ret
    exact ⟨rfl, HB1.out⟩
  · go_wp2_with fail
    refine (new_any w1).mono ?_
    rintro e w2 ⟨rfl, rfl⟩
    go_wp2_with fail
    obtain ⟨hj0, hl0⟩ := nests_start HB1.out hs1 HI1.out HO1.out
    have HJ0 := Lib.hid hj0; have HL0 := Lib.hid hl0
    clear hj0 hl0
    refine (nests1_any HJ0.out HL0.out (nests_at w1).2.1 (by omega) (by simp)).mono ?_
    rintro e w3 ⟨rfl, hj3, hl3, hk3⟩
    have hsz3 : w1.heap.size + 4 ≤ w3.heap.size := hj3.size
    have HJ3 := Lib.hid hj3; have HL3 := Lib.hid hl3
    have cl3 := cell_of_one (hj3.cs (w1.heap.size + 1, lObj w1.heap.size) (by simp [nestsCs]))
    clear hj3 hl3 hk3 ci1
    have hj4 : NJ w w.heap.size (w1.heap.size + 4) w1.heap.size (w1.heap.size + 2) ([(w3.heap.size, intObj 1)] ++ nestsCs w w1.heap.size a0 len cap outer) [decF (w1.heap.size + 2)] (w3.alloc (.cells #[.int .i64 1] 3)) :=
      (HJ3.out.same ((Same.refl (fun _ => False) w3).alloc _) id (fun _ _ => id) (by omega) (fun _ h => h.elim)).more _ (fun x hx => by
        simp only [List.mem_cons, List.not_mem_nil, or_false] at hx
        subst hx
        exact One.new _ _ _) (fun x hx => by
        simp only [List.mem_cons, List.not_mem_nil, or_false] at hx
        subst hx
        exact ⟨by simp only; omega, by simp only; omega, Or.inr fun cur e => by cases e⟩)
    have hl4 : LogAtR (w3.alloc (.cells #[.int .i64 1] 3)) w.heap.size (w1.heap.size + 4) w1.heap.size [decF (w1.heap.size + 2)] := HL3.out.alloc _
    have cl4 := cell_of_one (hj4.cs (w1.heap.size + 1, lObj w1.heap.size) (by simp [nestsCs]))
    have hs4 : (w3.alloc (.cells #[.int .i64 1] 3)).heap.size = w3.heap.size + 1 := by simp
    have HJ4 := Lib.hid hj4; have HL4 := Lib.hid hl4; have HS4 := Lib.hid hs4
    clear hj4 hl4 hs4
    go_wp2_with fail
    clear cl3 cl4
    have hj4 := HJ4.out; have hl4 := HL4.out; have hs4 := HS4.out
    have hdw := hj4.doWorld hl4.pos (by rw [hs4]; omega) 1
    have hdl : LogAtR (doWorld (w3.alloc (.cells #[.int .i64 1] 3)) w1.heap.size 1) w.heap.size (w1.heap.size + 4) w1.heap.size [decF (w1.heap.size + 2)] := ((hl4.alloc _).alloc _).alloc _
    clear hj4 hl4 hs4
    generalize hw4 : w3.alloc (.cells #[.int .i64 1] 3) = w4 at *
    have hcall := nests2_any (ab := w1.heap.size + 3) (ib := w.heap.size) (lb := w1.heap.size + 1) (wb := w3.heap.size) (ob := w.heap.size + 1) (Cs := [(w4.heap.size, lObj w1.heap.size), (w4.heap.size + 1, intObj 1), (w4.heap.size + 2, boolObj false)] ++ nestsCs w w1.heap.size a0 len cap outer)
      (sb := (a0.getD ⟨0, 0, none⟩).block) (soff := (a0.getD ⟨0, 0, none⟩).off) (len := len) (cap := cap) (a0 := a0) (outer := outer) (hdw.less (fun x hx => by
        simp only [List.mem_append, List.mem_cons, List.not_mem_nil, or_false] at hx ⊢
        rcases hx with hx | (hx | hx | hx) | hx
        · exact Or.inr (Or.inl hx)
        · exact Or.inl (Or.inl hx)
        · exact Or.inl (Or.inr (Or.inl hx))
        · exact Or.inl (Or.inr (Or.inr hx))
        · exact Or.inr (Or.inr hx))) hdl (by simp [nestsCs]) (by simp [nestsCs]) (by simp [nestsCs]) (by simp [nestsCs]) (fun x hx => by
        simp only [List.mem_append, List.mem_cons, List.not_mem_nil, or_false] at hx
        have := HS4.out
        rcases hx with (rfl | rfl | rfl) | hx
        · simp only; omega
        · simp only; omega
        · simp only; omega
        · have := nestsCs_lt hs1 x hx
          omega) (by omega) (by omega) ?_ ?_ ?_
    rotate_left
    · intro h0
      obtain ⟨b, off, rfl, _⟩ := HST.out h0
      rfl
    · intro h0
      obtain ⟨b, off, rfl, h1, _⟩ := HST.out h0
      exact h1
    · intro k hk
      obtain ⟨b, off, rfl, _, h1⟩ := HST.out (by omega)
      exact h1 k hk
    have HCALL := Lib.hid hcall; have HDW := Lib.hid hdw; have HW4 := Lib.hid hw4
    clear hcall hdw hdl hw4
    -- what is left behind Do, whichever way it went: the log and its count
    have hwd : ∀ (W : Nat) (v : World), NJ w w.heap.size (w1.heap.size + 4) w1.heap.size (w1.heap.size + 2) ((w3.heap.size, intObj W) :: ([(w4.heap.size, lObj w1.heap.size), (w4.heap.size + 1, intObj 1), (w4.heap.size + 2, boolObj false)] ++ nestsCs w w1.heap.size a0 len cap outer)) (List.replicate (W + 1) (decF (w1.heap.size + 2))) v → ∀ b : Bool,
        NJ w w.heap.size (w1.heap.size + 4) w1.heap.size (w1.heap.size + 2) ((w3.heap.size, intObj W) :: nestsCs w w1.heap.size a0 len cap outer) (List.replicate (W + 1) (decF (w1.heap.size + 2))) (v.setCell ⟨w4.heap.size + 2, 0, none⟩ (.bool b)) := fun W v h b =>
      (h.less (fun x hx => by
        simp only [List.mem_cons, List.mem_append, List.not_mem_nil, or_false] at hx ⊢
        exact hx.imp_right Or.inr)).same (F := fun k => k = w4.heap.size + 2) ((Same.refl (fun k => k = w4.heap.size + 2) _).setCell (p := ⟨w4.heap.size + 2, 0, none⟩) (fun _ => rfl) _) (by have := HS4.out; omega) (fun x hx e => by
        have := HS4.out
        simp only [List.mem_cons] at hx
        rcases hx with rfl | hx
        · simp only at e; omega
        · have := nestsCs_lt hs1 x hx
          omega) (by
        have := lt_of_block (h.cs (w4.heap.size + 2, boolObj false) (by simp))
        have := HS4.out
        simp only at *
        omega) (fun k e => by have := HS4.out; omega)
    have HWD := Lib.hid hwd
    clear hwd
    cases outer with
    | false =>
      refine (do_nil HL4.out _ _ (nests2_calls _) _ HCALL.out ?_).mono ?_
      · rintro v ⟨W, _, hN⟩
        exact hN.nj.cs (w4.heap.size + 2, boolObj false) (by simp)
      rintro e w5 ⟨rfl, v, ⟨W, hW, hN⟩, rfl⟩
      have hj5 := HWD.out _ _ hN.nj true
      have hl5 : LogAtR (v.setCell ⟨w4.heap.size + 2, 0, none⟩ (.bool true)) w.heap.size (w1.heap.size + 4) w1.heap.size (List.replicate (W + 1) (decF (w1.heap.size + 2))) :=
        hN.log.setCell (hN.nj.cs (w4.heap.size + 2, boolObj false) (by simp)) (by have := HS4.out; simp only; omega) (fun cur e => by cases e) _
      have hdr : Same (fun _ => False) (v.setCell ⟨w4.heap.size + 2, 0, none⟩ (.bool true)) (v.setCell ⟨w4.heap.size + 2, 0, none⟩ (.bool true)).drew := ⟨rfl, rfl, rfl, Nat.le_refl _, fun _ _ _ => rfl⟩
      have hsz5 : w.heap.size ≤ (v.setCell ⟨w4.heap.size + 2, 0, none⟩ (.bool true)).heap.size := by have := hj5.size; omega
      have hjD := hj5.same hdr id (fun _ _ => id) hsz5 (fun _ h => h.elim)
      have hlD : LogAtR (v.setCell ⟨w4.heap.size + 2, 0, none⟩ (.bool true)).drew w.heap.size (w1.heap.size + 4) w1.heap.size (List.replicate (W + 1) (decF (w1.heap.size + 2))) := hl5.kept (fun k hk _ => hdr.block k hk id)
      have hback := (back_yes (NJ w w.heap.size (w1.heap.size + 4) w1.heap.size (w1.heap.size + 2) (nestsCs w w1.heap.size a0 len cap false)) 0 (List.replicate (W + 1) (decF (w1.heap.size + 2))) (fun gs f w' _ _ hj hl => nests_step gs f w' hj hl) (fun gs w' w'' hj hk => hj.stab hk) _ (hjD.less (fun x hx => List.mem_cons_of_mem _ hx)) hlD (Nat.zero_le _) (by simp; omega)).mono
        (R' := fun e w' => e = .returned (.bool true) ∧ One w' (w1.heap.size + 2) (.int .i64 0) 3 ∧ Below w.heap.size w w') (fun e w' ⟨h1, h2, _⟩ => ⟨h1, by simpa using h2.n, h2.below⟩)
      have hlen := len_any hlD
      rw [List.length_replicate] at hlen
      have cn := hj5.n.cell
      rw [List.length_replicate] at cn
      have cw := cell_of_one (hj5.cs (w3.heap.size, intObj W) (by simp))
      have cl := cell_of_one (hj5.cs (w1.heap.size + 1, lObj w1.heap.size) (by simp [nestsCs]))
      have co := cell_of_one (hj5.cs (w.heap.size + 1, boolObj false) (by simp [nestsCs]))
      rw [show ((W + 1 : Nat) : Int) = (W : Int) + 1 by omega] at cn hlen
      have HBACK := Lib.hid hback; have HLEN := Lib.hid hlen
      clear hdr hsz5 hjD hlD hback hlen hj5 hl5 hN
      generalize v.setCell ⟨w4.heap.size + 2, 0, none⟩ (.bool true) = w6 at *
      go_wp2_with fail
      clear HCALL HDW HWD HJ0 HL0 HJ3 HL3 HJ4 HL4 HW4 HS4 HI1 HO1 HST
      have hwr : IntKind.i64.wrap ((W : Int) + 1) = (W : Int) + 1 := IntWalk.i64_in _ (by omega)
      go_region_with (first | (go_at_call 12; refine HLEN.out.mono ?_; rintro e w7 ⟨rfl, rfl⟩) | (go_at_call 10; refine HBACK.out.mono ?_; rintro e w7 ⟨rfl, hn7, hb7⟩; have c7 := One.cell hn7))
      all_goals
        go_wp2_with fail
        go_ret
        refine ⟨rfl, ?_⟩
        assumption
    | true =>
      refine (do_err HL4.out _ _ (nests2_calls _) 38 (.int .i64 70) (NJ w w.heap.size (w1.heap.size + 4) w1.heap.size (w1.heap.size + 2) (nestsCs w w1.heap.size a0 len cap true)) (fun hs f w hj hl => nests_step hs f w hj hl) (fun hs w w' hj hk => hj.stab hk) (HCALL.out.mono ?_)).mono ?_
      · rintro e v ⟨rfl, W, hW, hN⟩
        have hrep : List.replicate (W + 1) (decF (w1.heap.size + 2)) = [decF (w1.heap.size + 2)] ++ List.replicate W (decF (w1.heap.size + 2)) := by rw [List.replicate_succ]; rfl
        have h1 := (HWD.out _ _ hN.nj false).less (Ds := nestsCs w w1.heap.size a0 len cap true) (fun x hx => List.mem_cons_of_mem _ hx)
        have h2 : LogAtR (v.setCell ⟨w4.heap.size + 2, 0, none⟩ (.bool false)) w.heap.size (w1.heap.size + 4) w1.heap.size (List.replicate (W + 1) (decF (w1.heap.size + 2))) :=
          hN.log.setCell (hN.nj.cs (w4.heap.size + 2, boolObj false) (by simp)) (by have := HS4.out; simp only; omega) (fun cur e => by cases e) _
        rw [hrep] at h1 h2
        exact ⟨rfl, hN.nj.cs (w4.heap.size, lObj w1.heap.size) (by simp), hN.nj.cs (w4.heap.size + 1, intObj 1) (by simp), hN.nj.cs (w4.heap.size + 2, boolObj false) (by simp), List.replicate W (decF (w1.heap.size + 2)), by simp; omega, h2, h1⟩
      · rintro e w6 ⟨rfl, hj, hl⟩
        have cn := hj.n.cell
        have cl := cell_of_one (hj.cs (w1.heap.size + 1, lObj w1.heap.size) (by simp [nestsCs]))
        have co := cell_of_one (hj.cs (w.heap.size + 1, boolObj true) (by simp [nestsCs]))
        rw [List.length_singleton] at cn
        have HB6 := Lib.hid hj.below; have HL6 := Lib.hid hl
        clear hj hl
        go_wp2_with fail
        refine (len_any HL6.out).mono ?_
        rintro e w7 ⟨rfl, rfl⟩
        rw [List.length_singleton]
        go_wp2_with fail
        go_ret
        exact ⟨rfl, HB6.out⟩

end Go.Proofs.Ythofmccpfknjnaa
