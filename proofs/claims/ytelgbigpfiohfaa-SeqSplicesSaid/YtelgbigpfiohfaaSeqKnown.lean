/-
  rialtolaw13.known answers true. Conditions: none.
-/
import Derived.Test.YtelgbigpfiohfaaSeqB
namespace Go.Proofs.Ytelgbigpfiohfaa
open Go.RowKit Go.Extern.Stop Go.Stop Go.Extern Go.Lib Go.Maps
set_option maxRecDepth 1000000

set_option maxHeartbeats 8000000 in
theorem known13_any (w : World) : Calls Try.prog 14 #[] w fun e w' => e = .returned (.bool true) ∧ Same (fun _ => False) w w' := by
  have HNEW := Lib.hid (seqB_new w)
  go_enter Try.func14, Try.ntmps14
  go_wp2_with fail
  refine HNEW.out.mono ?_
  rintro e w1 ⟨x, rfl, h1, hs1⟩
  have A1 := Lib.hid (seqB_add (y := 1) h1 (by simp) (by omega) (by simp) (by decide))
  have S1 := Lib.hid hs1
  clear h1 hs1
  go_wp2_with (first
    | (go_at_call 16; with_reducible refine A1.out.mono ?_; rintro e w2 ⟨rfl, h2, hs2⟩; have S2 := Lib.hid (same_up S1.out (Nat.le_refl _) hs2); have A2 := Lib.hid (seqB_add (y := 2) h2 (by simp) (by omega) (by simp) (by decide)); clear h2 hs2)
    | (go_at_call 16; with_reducible refine A2.out.mono ?_; rintro e w3 ⟨rfl, h3, hs3⟩; have S3 := Lib.hid (same_up S2.out (Nat.le_refl _) hs3); have A3 := Lib.hid (seqB_add (y := 3) h3 (by simp) (by omega) (by simp) (by decide)); clear A1 A2 h3 hs3)
    | (go_at_call 16; with_reducible refine A3.out.mono ?_; rintro e w4 ⟨rfl, h4, hs4⟩; have S4 := Lib.hid (same_up S3.out (Nat.le_refl _) hs4); have A4 := Lib.hid (seqB_add_there (y := 3) h4 (by simp)); have H4 := Lib.hid h4; clear A3 h4 hs4)
    | (go_at_call 16; with_reducible refine A4.out.mono ?_; rintro e w5 ⟨rfl, hs5⟩; have S5 := Lib.hid (S4.out.trans hs5 (fun _ _ h => h)); have H5 := Lib.hid (H4.out.keep hs5); clear hs5))
  have A6 := Lib.hid (seqB_move (y := 3) (z := 1) (p := 2) H5.out (by simp) (by omega) (by simp) (by omega) (by simp) (by decide) (by decide))
  refine A6.out.mono ?_
  rintro e w6 ⟨rfl, h6, hs6⟩
  have S6 := Lib.hid (same_up S5.out (Nat.le_refl _) hs6)
  have hl : movedB ([] ++ [1] ++ [2] ++ [3]) 3 1 = [3, 1, 2] := by decide
  rw [hl] at h6
  have A7 := Lib.hid (seqB_all h6 (by simp))
  clear h6 hs6 hl
  go_wp2_with (first
    | (go_at_call 17; with_reducible refine A7.out.mono ?_; rintro e w7 ⟨v, rfl, ho, hs7⟩; have S7 := Lib.hid (S6.out.trans hs7 (fun _ _ h => h)); have A8 := Lib.hid (ids_any (w := w7.alloc (.cells #[.int .i64 3, .int .i64 1, .int .i64 2] 2)) (L := [3, 1, 2]) ((ownsRow_read ho).kept ((Same.refl (fun _ => False) w7).alloc _) (fun _ _ => id)) (three_read (heap_alloc_new w7 _)) (by simp)); clear ho hs7)
    | (go_at_call 27; with_reducible refine A8.out.mono ?_; rintro e w8 ⟨rfl, hs8⟩; have S8 := Lib.hid ((S7.out.alloc _).trans hs8 (fun _ _ h => h)); clear hs8))
  go_ret
  exact ⟨rfl, S8.out⟩

end Go.Proofs.Ytelgbigpfiohfaa
