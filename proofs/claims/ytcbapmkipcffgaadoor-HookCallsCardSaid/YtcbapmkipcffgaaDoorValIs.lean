/-
  value.Is tells whether a value may be. Conditions: none on inputs.
-/
import Derived.Test.YtcbapmkipcffgaaDoorVal
namespace Go.Proofs.YtcbapmkipcffgaaDoor
open Go.RowKit

/-- The document's values. -/
def isV (v : V) : Bool :=
  if v.k = 1 then v.s.toList.isEmpty && v.f == 0
  else if v.k = 2 then (v.i == 0 || v.i == 1) && v.s.toList.isEmpty && v.f == 0
  else if v.k = 3 ∨ v.k = 4 then decide (v.s.size ≤ 60) && v.i == 0 && v.f == 0
  else if v.k = 5 then v.i == 0 && v.s.toList.isEmpty
  else false

theorem ord_plain (f : Nat) (hf : f < 18446744073709551616) : ((ord f : Int) == 9223372036854775808) = (f == 0) := by
  unfold ord
  split
  · rw [Bool.eq_iff_iff]; simp; omega
  · rw [Bool.eq_iff_iff]; simp; omega

theorem ret_bool {a b : Bool} (h : a = b) : Ending.returned (.bool a) = .returned (.bool b) := by rw [h]

theorem is_any (v : V) (hv : v.ok) (w : World) :
    Calls Tryd.prog 64 #[v.val] w fun e w' => e = .returned (.bool (isV v)) ∧ w' = w.alloc v.obj := by
  obtain ⟨k, i, s, f⟩ := v
  have h0 := hv.k0
  have h1 := hv.k1
  have h2 := hv.i0
  have h3 := hv.i1
  have h4 := hv.f1
  have h5 := hv.s1
  simp only at h0 h1 h2 h3 h4 h5
  clear hv
  simp only [V.val, V.obj]
  unfold maxLen at h5
  have hp := ord_plain f h4
  go_enter Tryd.func64, Tryd.ntmps64
  go_wp2_with fail
  refine (order_any f h4 _).mono ?_
  rintro e w' ⟨rfl, rfl⟩
  go_wp2_with fail
  all_goals
    go_ret
    refine ⟨ret_bool ?_, ?_⟩
    · first | (simp_all [isV]; done) | (simp_all [isV]; omega)
    · first | rfl | simp_all

end Go.Proofs.YtcbapmkipcffgaaDoor
