/-
  The reference's without: all but one row, in a new row. Conditions: few elements.
-/
import Derived.Test.YtelgbigpfiohfaaPlayF
namespace Go.Proofs.Ytelgbigpfiohfaa
open Go.RowKit Go.Extern.Stop Go.Stop Go.Extern Go.Lib
set_option maxRecDepth 1000000

theorem one_row {w : World} {B : Nat} (hB : B ≤ w.heap.size) (y : Int) : (w.alloc (.cells #[.int .i64 y] 2)).ownsRow B 2 1 (.slice (some ⟨w.heap.size, 0, none⟩) 1 1) [y].length (intsV [y]) :=
  ⟨by simp, .inr ⟨w.heap.size, 1, #[.int .i64 y], rfl, hB, heap_alloc_new w _, Nat.le_refl _, by unfold maxLen; omega, rfl, rfl⟩⟩

/-- All but y. -/
def sans (L : List Int) (y : Int) : List Int := L.filter (fun q => q ≠ y)

theorem sans_yes {L : List Int} {y z : Int} (h : z = y) : sans (L ++ [z]) y = sans L y := by simp [sans, h]
theorem sans_no {L : List Int} {y z : Int} (h : ¬ z = y) : sans (L ++ [z]) y = sans L y ++ [z] := by simp [sans, h]
theorem sans_length (L : List Int) (y : Int) : (sans L y).length ≤ L.length := List.length_filter_le _ _

set_option maxHeartbeats 4000000 in
theorem without_any {w : World} {v : Value} {L : List Int} {y : Int} (hv : ReadC w 2 v (intsV L)) (hL : L.length ≤ 1000) :
    Calls Try.prog 46 #[v, .int .i64 y] w fun e w' => ∃ v', e = .returned v' ∧ w'.ownsRow w.heap.size 2 1 v' (sans L y).length (intsV (sans L y)) ∧ Same (fun _ => False) w w' := by
  have hcap : ∃ ao cap, v = .slice ao L.length cap := by
    obtain ⟨ao, cap, rfl, _⟩ := hv
    exact ⟨ao, cap, by simp⟩
  obtain ⟨ao, cap, rfl⟩ := hcap
  have HV := Lib.hid hv
  clear hv
  go_enter Try.func46, Try.ntmps46
  go_wp2_with fail
  go_loopg [5, 6] L.length (fun rr v5 vi wr => ∃ (j : Nat), j + rr = L.length ∧ vi = .int .i64 j ∧ wr.ownsRow w.heap.size 2 1 v5 (sans (L.take j) y).length (intsV (sans (L.take j) y)) ∧ Same (fun _ => False) w wr)
  case atStart => exact ⟨0, by omega, rfl, by simpa [sans] using World.ownsRow_nil _ _ _ _, Same.refl _ _⟩
  case round =>
    obtain ⟨j, hj, rfl, ho, hs⟩ := hrel
    by_cases hlast : j < L.length
    · have hl' : (j : Int) < (L.length : Int) := by omega
      have hjb : (j : Int) < 1001 := by omega
      have ra := HV.out.kept hs (fun _ _ h => h)
      obtain ⟨ab, ao2, ac2, acs, afr, ea, hab, _⟩ := ra.where (by simpa using (by omega : 0 < L.length))
      simp only [Value.slice.injEq] at ea
      obtain ⟨rfl, -, -⟩ := ea
      have hx := ra.cell (j := j) (x := .int .i64 L[j]) (by simp [hlast])
      have hla := lt_of_block hab
      have HTK := Lib.hid (show L.take (j + 1) = L.take j ++ [L[j]] from (List.take_append_getElem hlast).symm)
      have HSL := Lib.hid (Nat.le_trans (sans_length (L.take j) y) (by rw [List.length_take]; exact Nat.min_le_left _ _))
      have hup := hs.size
      have HO := Lib.hid ho; have HS := Lib.hid hs
      generalize L[j] = z at *
      clear ra hab ho hs
      by_cases hz : z = y
      · subst hz
        go_wp2_with fail
        go_roundg (gk - 1)
        case measure => omega
        case rel => exact ⟨j + 1, by omega, by go_num, by rw [HTK.out, sans_yes rfl]; exact HO.out, HS.out⟩
      · have HSA := Lib.hid (show Same (fun _ => False) wr (wr.alloc (.cells #[.int .i64 z] 2)) from (Same.refl _ wr).alloc _)
        have HRD := Lib.hid (ownsRow_read (one_row hup z))
        have HOA := Lib.hid (HSA.out.row HO.out (fun _ _ h => h))
        have HSZ := Lib.hid (show (wr.alloc (.cells #[.int .i64 z] 2)).heap.size = wr.heap.size + 1 by simp)
        go_wp2_with (first
          | (at_builtin; refine wpList_append_ints (wr.alloc (.cells #[.int .i64 z] 2)) rfl (.tmp 19) (.tmp 24) rfl w.heap.size u5 (sans (L.take j) y) rfl HOA.out _ [z] rfl HRD.out (by have := HSL.out; simp; omega) (by have := HSZ.out; omega) ?_))
        intro v' w7 ho7 hs7 hb7
        have ho7 : w7.ownsRow w.heap.size 2 1 v' (sans (L.take (j + 1)) y).length (intsV (sans (L.take (j + 1)) y)) := by rw [HTK.out, sans_no hz]; simpa using ho7
        have hs57 : Same (fun _ => False) w w7 := (HS.out.trans HSA.out (fun _ _ h => h)).trans hs7 (fun i hi hF => by have := (HO.out.lt i hF).1; omega)
        have HO7 := Lib.hid ho7; have HS7 := Lib.hid hs57
        clear ho7 hs7 hb7 hs57
        go_wp2_with fail
        go_roundg (gk - 1)
        case measure => omega
        case rel => exact ⟨j + 1, by omega, by go_num, HO7.out, HS7.out⟩
    · have hl' : ¬ (j : Int) < (L.length : Int) := by omega
      obtain rfl : L.length = j := by omega
      rw [List.take_length] at ho
      have HO := Lib.hid ho; have HS := Lib.hid hs
      clear ho hs
      go_wp2_with fail
      go_ret
      exact ⟨_, rfl, HO.out, HS.out⟩

end Go.Proofs.Ytelgbigpfiohfaa
