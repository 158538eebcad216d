/-
  Values as the document has them, and how they lie in memory; the places of floats. Conditions: none on inputs.
-/
import Derived.Test.YtcbapmkipcffgaaDoorRows
import Derived.Test.YtcbapmkipcffgaaDoorSep
namespace Go.Proofs.YtcbapmkipcffgaaDoor
open Go.RowKit

@[go_sem] theorem run_store_float (P : Program) (w : World) (a : Addr) (m : Mode) (k : FloatKind) (n : Nat) : (store a (.float k n) m).run P w = stored P w a (.float k n) m := run_store P w a _ m rfl

/-- A value: its kind, its integer, its text, its float's bits. -/
structure V where
  k : Int
  i : Int
  s : ByteArray
  f : Nat

def V.cells (v : V) : List Value := [.int .i64 v.k, .int .i64 v.i, .string v.s, .float .f64 v.f]
abbrev V.val (v : V) : Value := .agg #[.int .i64 v.k, .int .i64 v.i, .string v.s, .float .f64 v.f]
abbrev V.obj (v : V) : Obj := .cells #[.int .i64 v.k, .int .i64 v.i, .string v.s, .float .f64 v.f] 38

/-- What each field of a value may hold. -/
structure V.ok (v : V) : Prop where
  k0 : -9223372036854775808 ≤ v.k
  k1 : v.k ≤ 9223372036854775807
  i0 : -9223372036854775808 ≤ v.i
  i1 : v.i ≤ 9223372036854775807
  s1 : v.s.size ≤ maxLen
  f1 : v.f < 18446744073709551616

/-- A float's place among all floats. -/
def ord (f : Nat) : Nat := if f < 9223372036854775808 then f + 9223372036854775808 else 18446744073709551615 - f

theorem and_top {f : Nat} (h : f < 2^63) : f &&& 2^63 = 0 := by
  apply Nat.eq_of_testBit_eq
  intro i
  rw [Nat.testBit_and, Nat.testBit_two_pow, Nat.zero_testBit]
  by_cases hi : 63 = i
  · subst hi; simp [Nat.testBit_lt_two_pow h]
  · simp [hi]

theorem and_top' {f : Nat} (h : 2^63 ≤ f) (h2 : f < 2^64) : f &&& 2^63 = 2^63 := by
  have hf : f.testBit 63 = true := by
    rw [Nat.testBit_eq_decide_div_mod_eq]; simp; omega
  apply Nat.eq_of_testBit_eq
  intro i
  rw [Nat.testBit_and, Nat.testBit_two_pow]
  by_cases hi : 63 = i
  · subst hi; simp [hf]
  · simp [hi]

theorem or_top {f : Nat} (h : f < 2^63) : f ||| 2^63 = f + 2^63 := by
  have := Nat.two_pow_add_eq_or_of_lt h 1
  rw [Nat.mul_one] at this
  rw [Nat.or_comm, ← this, Nat.add_comm]

theorem not_top {f : Nat} (h : f < 2^64) : (2^64-1) ^^^ f = 2^64 - 1 - f := by
  apply Nat.eq_of_testBit_eq
  intro i
  rw [Nat.testBit_xor, Nat.testBit_two_pow_sub_one, show 2^64 - 1 - f = 2^64 - (f+1) by omega, Nat.testBit_two_pow_sub_succ h]
  by_cases hi : i < 64
  · simp [hi]
  · have : f.testBit i = false := Nat.testBit_lt_two_pow (Nat.lt_of_lt_of_le h (Nat.pow_le_pow_right (by omega) (by omega)))
    simp [hi, this]

theorem bits_and_low {f : Nat} (h : f < 9223372036854775808) : bits .and .u64 (f : Int) 9223372036854775808 = 0 := by
  have := bits_and_u64_nat f 9223372036854775808 (by omega) (by omega)
  rw [show (9223372036854775808 : Nat) = 2^63 from rfl, and_top h] at this
  exact this

theorem bits_and_high {f : Nat} (h : 9223372036854775808 ≤ f) (h2 : f < 18446744073709551616) : bits .and .u64 (f : Int) 9223372036854775808 = 9223372036854775808 := by
  have := bits_and_u64_nat f 9223372036854775808 (by omega) (by omega)
  rw [show (9223372036854775808 : Nat) = 2^63 from rfl, and_top' h h2] at this
  exact this

theorem bits_or_low {f : Nat} (h : f < 9223372036854775808) : bits .or .u64 (f : Int) 9223372036854775808 = (f + 9223372036854775808 : Nat) := by
  have := bits_or_u64_nat f 9223372036854775808 (by omega) (by omega)
  rw [show (9223372036854775808 : Nat) = 2^63 from rfl, or_top h] at this
  exact this

theorem bits_not {f : Nat} (h2 : f < 18446744073709551616) : bits .xor .u64 IntKind.u64.max (f : Int) = (18446744073709551615 - f : Nat) := by
  have := bits_xor_u64_nat 18446744073709551615 f (by omega) h2
  rw [show (18446744073709551615 : Nat) = 2^64 - 1 from rfl, not_top h2] at this
  exact this

theorem bits_call (f : Nat) (w : World) : (callFunc 92 #[.float .f64 f]).run Tryd.prog w = .ok (.value (.int .u64 f)) w := by kernel_rfl

theorem ord_low {f : Nat} (h : f < 9223372036854775808) : ord f = f + 9223372036854775808 := by unfold ord; rw [if_pos h]
theorem ord_high {f : Nat} (h : ¬ f < 9223372036854775808) : ord f = 18446744073709551615 - f := by unfold ord; rw [if_neg h]

theorem ret_u64 {a b : Int} (h : a = b) : Ending.returned (.int .u64 a) = .returned (.int .u64 b) := by rw [h]

set_option maxRecDepth 100000 in
theorem order_any (f : Nat) (hf : f < 18446744073709551616) (w : World) :
    Calls Tryd.prog 87 #[.float .f64 f] w fun e w' => e = .returned (.int .u64 (ord f)) ∧ w = w' := by
  have hb := bits_call f w
  by_cases h : f < 9223372036854775808
  · have hand := bits_and_low h
    have hor := bits_or_low h
    have HO := Lib.hid (ord_low h); have HR := Lib.hid hor
    clear hor
    go_enter Tryd.func87, Tryd.ntmps87
    go_wp2_with fail
    go_ret
    exact ⟨ret_u64 (by rw [HR.out, HO.out]), rfl⟩
  · have hand := bits_and_high (by omega) hf
    have HO := Lib.hid (ord_high h); have HR := Lib.hid (bits_not hf)
    go_enter Tryd.func87, Tryd.ntmps87
    go_wp2_with fail
    go_ret
    exact ⟨ret_u64 (by rw [HR.out, HO.out]), rfl⟩

end Go.Proofs.YtcbapmkipcffgaaDoor
