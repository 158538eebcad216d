/-
  The document's answers on floats and values, told of memory. Conditions: none on inputs.
-/
import Derived.Test.YtmdkfbbagjcboaaCodePut
namespace Go.Proofs.Ytmdkfbbagjcboaa
open Go.RowKit

/-- The float that stands at a place. -/
def ofF (n : Nat) : Nat := if n < 9223372036854775808 then 18446744073709551615 - n else n - 9223372036854775808

theorem ofF_low {n : Nat} (h : n < 9223372036854775808) : ofF n = 18446744073709551615 - n := by unfold ofF; rw [if_pos h]
theorem ofF_high {n : Nat} (h : ¬ n < 9223372036854775808) : ofF n = n - 9223372036854775808 := by unfold ofF; rw [if_neg h]
theorem ofF_lt {n : Nat} (h : n < 18446744073709551616) : ofF n < 18446744073709551616 := by unfold ofF; split <;> omega
theorem ofF_ord {f : Nat} (h : f < 18446744073709551616) : ofF (ord f) = f := by
  unfold ofF ord
  split <;> split <;> omega

theorem frombits_call (n : Nat) (w : World) : (callFunc 37 #[.int .u64 n]).run Try.prog w = .ok (.value (.float .f64 n)) w := by kernel_rfl

theorem bits_andNot_high {f : Nat} (h : ¬ f < 9223372036854775808) (h2 : f < 18446744073709551616) : bits .andNot .u64 (f : Int) 9223372036854775808 = (f - 9223372036854775808 : Nat) := by
  have := u64_andNot_nat f 9223372036854775808 h2 (by omega)
  rw [show (18446744073709551615 - 9223372036854775808 : Nat) = 2^63 - 1 from rfl, Nat.and_two_pow_sub_one_eq_mod, show f % 2^63 = f - 9223372036854775808 by omega] at this
  exact this

theorem bits_xor_high {f : Nat} (h : ¬ f < 9223372036854775808) (h2 : f < 18446744073709551616) : bits .xor .u64 (f : Int) 9223372036854775808 = (f - 9223372036854775808 : Nat) := by
  have := bits_xor_u64_nat f 9223372036854775808 h2 (by omega)
  rw [show f ^^^ 9223372036854775808 = f - 9223372036854775808 from ?_] at this
  · exact this
  · have h3 : f - 2 ^ 63 < 2 ^ 63 := by omega
    have h4 := Nat.two_pow_add_eq_or_of_lt h3 1
    have h5 : f = (f - 2 ^ 63) ||| 2 ^ 63 := by rw [Nat.or_comm, show (2:Nat)^63 = 2^63 * 1 by omega, ← h4]; omega
    apply Nat.eq_of_testBit_eq
    intro i
    have h6 : f.testBit i = ((f - 2 ^ 63).testBit i || (2 ^ 63).testBit i) := by
      have := congrArg (fun x => Nat.testBit x i) h5
      simpa using this
    show (f ^^^ 2 ^ 63).testBit i = (f - 2 ^ 63).testBit i
    rw [Nat.testBit_xor, h6, Nat.testBit_two_pow]
    by_cases hi : 63 = i
    · subst hi; simp [Nat.testBit_lt_two_pow h3]
    · simp [hi]

theorem ret_f64 {a b : Nat} (h : a = b) : Ending.returned (.float .f64 a) = .returned (.float .f64 b) := by rw [h]

theorem of_any (n : Nat) (hn : n < 18446744073709551616) (w : World) :
    Calls Try.prog 32 #[.int .u64 n] w fun e w' => e = .returned (.float .f64 (ofF n)) ∧ w = w' := by
  by_cases h : n < 9223372036854775808
  · have hand := bits_and_low h
    have hnot := bits_not hn
    have hc := frombits_call (18446744073709551615 - n) w
    have HO := Lib.hid (ofF_low h)
    go_enter Try.func32, Try.ntmps32
    go_wp2_with fail
    go_ret
    exact ⟨ret_f64 HO.out.symm, rfl⟩
  · have hand := bits_and_high (by omega) hn
    have hnot := bits_andNot_high h hn
    have hc := frombits_call (n - 9223372036854775808) w
    have HO := Lib.hid (ofF_high h)
    go_enter Try.func32, Try.ntmps32
    go_wp2_with fail
    go_ret
    exact ⟨ret_f64 HO.out.symm, rfl⟩

theorem shr63_low {n : Nat} (h : n < 9223372036854775808) : (n : Int) / 2 ^ 63 = 0 := by omega
theorem shr63_high {n : Nat} (h : ¬ n < 9223372036854775808) (h2 : n < 18446744073709551616) : (n : Int) / 2 ^ 63 = 1 := by omega

theorem rof_any (n : Nat) (hn : n < 18446744073709551616) (w : World) :
    Calls Try.prog 34 #[.int .u64 n] w fun e w' => e = .returned (.float .f64 (ofF n)) ∧ w = w' := by
  by_cases h : n < 9223372036854775808
  · have hand := shr63_low h
    have hnot := bits_not hn
    have hc := frombits_call (18446744073709551615 - n) w
    have HO := Lib.hid (ofF_low h)
    go_enter Try.func34, Try.ntmps34
    go_wp2_with fail
    go_ret
    exact ⟨ret_f64 HO.out.symm, rfl⟩
  · have hand := shr63_high h hn
    have hnot := bits_xor_high h hn
    have hc := frombits_call (n - 9223372036854775808) w
    have HO := Lib.hid (ofF_high h)
    go_enter Try.func34, Try.ntmps34
    go_wp2_with fail
    go_ret
    exact ⟨ret_f64 HO.out.symm, rfl⟩

theorem rorder_any (f : Nat) (hf : f < 18446744073709551616) (w : World) :
    Calls Try.prog 23 #[.float .f64 f] w fun e w' => e = .returned (.int .u64 (ord f)) ∧ w = w' := by
  have hb := bits_call f w
  by_cases h : f < 9223372036854775808
  · have hand := shr63_low h
    have hor := bits_or_low h
    have HO := Lib.hid (ord_low h); have HR := Lib.hid hor
    clear hor
    go_enter Try.func23, Try.ntmps23
    go_wp2_with fail
    go_ret
    exact ⟨ret_u64 (by rw [HR.out, HO.out]), rfl⟩
  · have hand := shr63_high h hf
    have HO := Lib.hid (ord_high h); have HR := Lib.hid (bits_not hf)
    go_enter Try.func23, Try.ntmps23
    go_wp2_with fail
    go_ret
    exact ⟨ret_u64 (by rw [HR.out, HO.out]), rfl⟩

theorem same_any (f g : Nat) (w : World) :
    Calls Try.prog 36 #[.float .f64 f, .float .f64 g] w fun e w' => e = .returned (.bool ((f : Int) == (g : Int))) ∧ w = w' := by
  have hb := bits_call f w
  have hb2 := bits_call g w
  go_enter Try.func36, Try.ntmps36
  go_wp2_with fail
  go_ret
  exact ⟨rfl, rfl⟩

theorem zero_any (f : Nat) (w : World) :
    Calls Try.prog 29 #[.float .f64 f] w fun e w' => e = .returned (.bool (f == 0)) ∧ w = w' := by
  go_enter Try.func29, Try.ntmps29
  go_wp2_with fail
  refine (same_any f 0 w).mono ?_
  rintro e w' ⟨rfl, rfl⟩
  go_wp2_with fail
  go_ret
  exact ⟨ret_bool (by rw [Bool.eq_iff_iff]; simp), rfl⟩

/-- Which of two floats stands ahead. -/
def cmpF (a b : Nat) : Int := if ord a < ord b then -1 else if ord b < ord a then 1 else 0

theorem ret_i64 {a b : Int} (h : a = b) : Ending.returned (.int .i64 a) = .returned (.int .i64 b) := by rw [h]

theorem rcompare_any (f g : Nat) (hf : f < 18446744073709551616) (hg : g < 18446744073709551616) (w : World) :
    Calls Try.prog 35 #[.float .f64 f, .float .f64 g] w fun e w' => e = .returned (.int .i64 (cmpF f g)) ∧ w = w' := by
  go_enter Try.func35, Try.ntmps35
  go_wp2_with fail
  refine (rorder_any f hf w).mono ?_
  rintro e w' ⟨rfl, rfl⟩
  go_wp2_with fail
  refine (rorder_any g hg w).mono ?_
  rintro e w' ⟨rfl, rfl⟩
  go_wp2_with fail
  all_goals
    go_ret
    exact ⟨ret_i64 (by unfold cmpF; first | rw [if_pos (by omega)] | rw [if_neg (by omega), if_pos (by omega)] | rw [if_neg (by omega), if_neg (by omega)]), rfl⟩

theorem ris_any (v : V) (hv : v.ok) (w : World) :
    Calls Try.prog 21 #[v.val] w fun e w' => e = .returned (.bool (isV v)) ∧ w' = w.alloc v.obj := by
  obtain ⟨k, i, s, f⟩ := v
  have h0 := hv.k0
  have h1 := hv.k1
  have h2 := hv.i0
  have h3 := hv.i1
  have h4 := hv.f1
  have h5 := hv.s1
  simp only at h0 h1 h2 h3 h4 h5
  clear hv
  simp only [V.val, V.obj]
  unfold maxLen at h5
  go_enter Try.func21, Try.ntmps21
  go_wp2_with (first | (go_at_call 29; refine (zero_any f _).mono ?_; rintro e w' ⟨rfl, rfl⟩) | fail)
  all_goals
    go_ret
    refine ⟨ret_bool ?_, ?_⟩
    · first | (simp_all [isV]; done) | (simp_all [isV]; omega)
    · first | rfl | simp_all

def sgn (b : Bool) : Int := if b then -1 else 1

theorem sign_any (b : Bool) (w : World) :
    Calls Try.prog 27 #[.bool b] w fun e w' => e = .returned (.int .i64 (sgn b)) ∧ w = w' := by
  go_enter Try.func27, Try.ntmps27
  cases b <;> go_wp2_with fail
  all_goals
    go_ret
    exact ⟨rfl, rfl⟩

end Go.Proofs.Ytmdkfbbagjcboaa
