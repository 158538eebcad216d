/-
  rialtolaw14.known answers true. Conditions: none.
-/
import Derived.Test.YtelgbigpfiohfaaPosL
namespace Go.Proofs.Ytelgbigpfiohfaa
open Go.RowKit Go.Extern.Stop Go.Stop Go.Extern Go.Lib Go.Maps
set_option maxRecDepth 1000000

theorem posB_new (w : World) : Calls Try.prog 9 #[] w fun e w' => ∃ x, e = .returned (.pointer (some ⟨x, 0, none⟩)) ∧ IxB 62 w' w.heap.size x [] 0 ∧ Same (fun _ => False) w w' := by
  refine (pos_new w).mono ?_
  rintro e w' ⟨x, rfl, h, hs⟩
  exact ⟨x, rfl, ⟨0, 0, h, by omega, by omega, by omega⟩, hs⟩

theorem posB_bad {w : World} {B x k : Nat} {L : List Int} {i y : Int} (h : IxB 62 w B x L k) (hi : i < 0 ∨ (L.length : Int) < i) (hy : y ∉ L) (hy64 : I64 y) :
    Calls Try.prog 10 #[.pointer (some ⟨x, 0, none⟩), .int .i64 i, .int .i64 y] w fun e w' => e = .returned (.int .i64 73) ∧ Same (fun _ => False) w w' := by
  obtain ⟨c, N, hx, _⟩ := h
  exact pos_insert_bad hx hy hy64 hi

theorem posB_all {w : World} {B x k : Nat} {L : List Int} (h : IxB 62 w B x L k) (hL : L.length ≤ 80000) :
    Calls Try.prog 28 #[.pointer (some ⟨x, 0, none⟩)] w fun e w' => ∃ v, e = .returned v ∧ w'.ownsRow w.heap.size 2 1 v L.length (intsV L) ∧ Same (fun _ => False) w w' := by
  obtain ⟨c, N, hx, _⟩ := h
  exact pos_all hx (by omega)

theorem same_up {w w1 w2 : World} {B : Nat} (h : Same (fun _ => False) w w1) (hB : w.heap.size ≤ B) (h2 : Same (fun q => B ≤ q) w1 w2) : Same (fun _ => False) w w2 :=
  h.trans h2 (fun i hi hb => by omega)

/-- Three numbers in a block. -/
theorem three_read {w : World} {q : Nat} {a b c : Int} (h : w.heap[q]? = some (.cells #[.int .i64 a, .int .i64 b, .int .i64 c] 2 (0, 0))) : ReadC w 2 (.slice (some ⟨q, 0, none⟩) 3 3) (intsV [a, b, c]) := by
  refine ⟨_, 3, rfl, fun j v hj => ⟨_, _, _, _, rfl, h, ?_⟩, by simp⟩
  simp only [World.cell?, h]
  simpa using hj

set_option maxHeartbeats 8000000 in
theorem known14_any (w : World) : Calls Try.prog 8 #[] w fun e w' => e = .returned (.bool true) ∧ Same (fun _ => False) w w' := by
  have HNEW := Lib.hid (posB_new w)
  go_enter Try.func8, Try.ntmps8
  go_wp2_with fail
  refine HNEW.out.mono ?_
  rintro e w1 ⟨x, rfl, h1, hs1⟩
  have hbase := h1.base
  have A1 := Lib.hid (posB_insert (i := 0) (u := 0) (y := 1) h1 rfl (by simp) (by simp) (by omega) (by simp) (by decide))
  have S1 := Lib.hid hs1
  clear h1 hs1
  go_wp2_with (first
    | (go_at_call 10; with_reducible refine A1.out.mono ?_; rintro e w2 ⟨rfl, h2, hs2⟩; have S2 := Lib.hid (same_up S1.out (Nat.le_refl _) hs2); have A2 := Lib.hid (posB_insert (i := 1) (u := 1) (y := 2) h2 rfl (by simp [ins]) (by simp [ins]) (by omega) (by simp [ins]) (by decide)); clear h2 hs2)
    | (go_at_call 10; with_reducible refine A2.out.mono ?_; rintro e w3 ⟨rfl, h3, hs3⟩; have S3 := Lib.hid (same_up S2.out (Nat.le_refl _) hs3); have A3 := Lib.hid (posB_insert (i := 2) (u := 2) (y := 3) h3 rfl (by simp [ins]) (by simp [ins]) (by omega) (by simp [ins]) (by decide)); clear h3 hs3)
    | (go_at_call 10; with_reducible refine A3.out.mono ?_; rintro e w4 ⟨rfl, h4, hs4⟩; have S4 := Lib.hid (same_up S3.out (Nat.le_refl _) hs4); have A4 := Lib.hid (posB_bad (i := 5) (y := 4) h4 (by simp [ins]) (by simp [ins]) (by decide)); have H4 := Lib.hid h4; clear h4 hs4)
    | (go_at_call 10; with_reducible refine A4.out.mono ?_; rintro e w5 ⟨rfl, hs5⟩; have S5 := Lib.hid (S4.out.trans hs5 (fun _ _ h => h)); have H5 := Lib.hid (H4.out.keep hs5); clear hs5))
  have A6 := Lib.hid (posB_move (i := 2) (u := 2) (y := 1) (p := 0) H5.out rfl (by simp [ins]) (by simp [ins]) (by omega) (by simp [ins]) (by simp [ins]))
  refine A6.out.mono ?_
  rintro e w6 ⟨rfl, h6, hs6⟩
  have S6 := Lib.hid (same_up S5.out (Nat.le_refl _) hs6)
  have hl : movedTo (ins (ins (ins [] 0 1) 1 2) 2 3) 1 2 = [2, 3, 1] := by decide
  rw [hl] at h6
  have A7 := Lib.hid (posB_all h6 (by simp))
  clear h6 hs6 hl
  go_wp2_with (first
    | (go_at_call 28; with_reducible refine A7.out.mono ?_; rintro e w7 ⟨v, rfl, ho, hs7⟩; have S7 := Lib.hid (S6.out.trans hs7 (fun _ _ h => h)); have A8 := Lib.hid (ids_any (w := w7.alloc (.cells #[.int .i64 2, .int .i64 3, .int .i64 1] 2)) (L := [2, 3, 1]) ((ownsRow_read ho).kept ((Same.refl (fun _ => False) w7).alloc _) (fun _ _ => id)) (three_read (heap_alloc_new w7 _)) (by simp)); clear ho hs7)
    | (go_at_call 27; with_reducible refine A8.out.mono ?_; rintro e w8 ⟨rfl, hs8⟩; have S8 := Lib.hid ((S7.out.alloc _).trans hs8 (fun _ _ h => h)); clear hs8))
  go_ret
  exact ⟨rfl, S8.out⟩

end Go.Proofs.Ytelgbigpfiohfaa
