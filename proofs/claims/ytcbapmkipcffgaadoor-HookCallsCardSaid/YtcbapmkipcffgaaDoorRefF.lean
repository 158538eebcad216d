/-
  rialtoref1.Of: the float that stands at a place. Conditions: none. (Printed by wip/tools/reff_gen.py.)
-/
import Derived.Test.YtcbapmkipcffgaaDoorHVals
namespace Go.Proofs.YtcbapmkipcffgaaDoor
open Go.RowKit
set_option maxRecDepth 100000



/-- The float that stands at a place. -/
def ofF (n : Nat) : Nat := if n < 9223372036854775808 then 18446744073709551615 - n else n - 9223372036854775808

theorem ofF_low {n : Nat} (h : n < 9223372036854775808) : ofF n = 18446744073709551615 - n := by unfold ofF; rw [if_pos h]
theorem ofF_high {n : Nat} (h : ¬ n < 9223372036854775808) : ofF n = n - 9223372036854775808 := by unfold ofF; rw [if_neg h]
theorem ofF_lt {n : Nat} (h : n < 18446744073709551616) : ofF n < 18446744073709551616 := by unfold ofF; split <;> omega
theorem ofF_ord {f : Nat} (h : f < 18446744073709551616) : ofF (ord f) = f := by
  unfold ofF ord
  split <;> split <;> omega

theorem frombits_call (n : Nat) (w : World) : (callFunc 91 #[.int .u64 n]).run Tryd.prog w = .ok (.value (.float .f64 n)) w := by kernel_rfl

theorem bits_xor_high {f : Nat} (h : ¬ f < 9223372036854775808) (h2 : f < 18446744073709551616) : bits .xor .u64 (f : Int) 9223372036854775808 = (f - 9223372036854775808 : Nat) := by
  have := bits_xor_u64_nat f 9223372036854775808 h2 (by omega)
  rw [show f ^^^ 9223372036854775808 = f - 9223372036854775808 from ?_] at this
  · exact this
  · have h3 : f - 2 ^ 63 < 2 ^ 63 := by omega
    have h4 := Nat.two_pow_add_eq_or_of_lt h3 1
    have h5 : f = (f - 2 ^ 63) ||| 2 ^ 63 := by rw [Nat.or_comm, show (2:Nat)^63 = 2^63 * 1 by omega, ← h4]; omega
    apply Nat.eq_of_testBit_eq
    intro i
    have h6 : f.testBit i = ((f - 2 ^ 63).testBit i || (2 ^ 63).testBit i) := by
      have := congrArg (fun x => Nat.testBit x i) h5
      simpa using this
    show (f ^^^ 2 ^ 63).testBit i = (f - 2 ^ 63).testBit i
    rw [Nat.testBit_xor, h6, Nat.testBit_two_pow]
    by_cases hi : 63 = i
    · subst hi; simp [Nat.testBit_lt_two_pow h3]
    · simp [hi]

theorem ret_f64 {a b : Nat} (h : a = b) : Ending.returned (.float .f64 a) = .returned (.float .f64 b) := by rw [h]

theorem rof_any (n : Nat) (hn : n < 18446744073709551616) (w : World) :
    Calls Tryd.prog 72 #[.int .u64 n] w fun e w' => e = .returned (.float .f64 (ofF n)) ∧ w = w' := by
  by_cases h : n < 9223372036854775808
  · have hand := shr63_low h
    have hnot := bits_not hn
    have hc := frombits_call (18446744073709551615 - n) w
    have HO := Lib.hid (ofF_low h)
    go_enter Tryd.func72, Tryd.ntmps72
    go_wp2_with fail
    go_ret
    exact ⟨ret_f64 HO.out.symm, rfl⟩
  · have hand := shr63_high h hn
    have hnot := bits_xor_high h hn
    have hc := frombits_call (n - 9223372036854775808) w
    have HO := Lib.hid (ofF_high h)
    go_enter Tryd.func72, Tryd.ntmps72
    go_wp2_with fail
    go_ret
    exact ⟨ret_f64 HO.out.symm, rfl⟩

end Go.Proofs.YtcbapmkipcffgaaDoor
