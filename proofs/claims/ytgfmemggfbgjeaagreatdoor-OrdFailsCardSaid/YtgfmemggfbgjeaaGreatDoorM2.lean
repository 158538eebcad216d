/-
  Package tree over entries: its head, its nodes in memory; leaf, size, Len. Conditions: few elements, small counts. Values as the document has them, and how they lie in memory; the places of floats. Conditions: none on inputs. value.Is tells whether a value may be. Conditions: none on inputs.
-/
import Derived.Test.YtgfmemggfbgjeaaGreatDoorRows
import Derived.Test.YtgfmemggfbgjeaaGreatDoorM1
import Derived.Lib.Hide
import Derived.IntWalk
import Derived.Deep.RegionHeld3
import Derived.Deep.CutRange
namespace Go.Proofs.YtgfmemggfbgjeaaGreatDoor
open Go.RowKit Go.Extern.Stop Go.Stop Go.Extern Go.Lib
set_option maxRecDepth 1000000

/-- A tree's head: its first node, how many nodes were written. -/
abbrev headObj (r : Value) (n : Int) : Obj := .cells #[r, .int .i64 n] 111
/-- A node: its elements, the nodes below it, how many elements there are. -/
abbrev nodeObj (l k : Value) (n : Int) : Obj := .cells #[l, k, .int .i64 n] 116

theorem head_cells {w : World} {b : Nat} {r : Value} {n : Int} (h : w.heap[b]? = some (headObj r n)) :
    w.cell? ⟨b, 0, none⟩ = some r ∧ w.cell? ⟨b, 1, none⟩ = some (.int .i64 n) ∧ ∀ o, w.frozen? ⟨b, o, none⟩ = false := by
  simp [World.cell?, World.frozen?, h]

theorem node_cells {w : World} {b : Nat} {l k : Value} {n : Int} (h : w.heap[b]? = some (nodeObj l k n)) :
    w.cell? ⟨b, 0, none⟩ = some l ∧ w.cell? ⟨b, 1, none⟩ = some k ∧ w.cell? ⟨b, 2, none⟩ = some (.int .i64 n) ∧ ∀ o, w.frozen? ⟨b, o, none⟩ = false := by
  simp [World.cell?, World.frozen?, h]

theorem set_at {W : World} {p o : Nat} {cs : Array Value} {t : TypeId} {fr : Nat × Nat} {u : Value} (h : W.heap[p]? = some (.cells cs t fr)) : (W.setCell ⟨p, o, none⟩ u).heap[p]? = some (.cells (cs.setIfInBounds o u) t fr) := by
  simp [World.setCell, Array.getElem?_modify, h]

/-- What stands behind a node that was made: the head counts it. -/
theorem leaf_any {w : World} {t : Nat} {r : Value} {c : Int} {lo : Option Addr} {n cap : Nat} (ht : w.heap[t]? = some (headObj r c)) (hc : 0 ≤ c ∧ c ≤ 1000000000) :
    Calls Tryz.prog 57 #[.pointer (some ⟨t, 0, none⟩), .slice lo n cap] w fun e w' => ∃ b, e = .returned (.pointer (some ⟨b, 0, none⟩)) ∧ w.heap.size ≤ b ∧ w'.heap[b]? = some (nodeObj (.slice lo n cap) (.slice none 0 0) n) ∧ w'.heap[t]? = some (headObj r (c + 1)) ∧ Same (fun k => k = t) w w' := by
  obtain ⟨h0, h1, hf⟩ := head_cells ht
  have hlt := lt_of_block ht
  obtain ⟨c0, c1⟩ := hc
  have hs : Same (fun k => k = t) w ((w.setCell ⟨t, 1, none⟩ (.int .i64 (c + 1))).alloc (nodeObj (.slice lo n cap) (.slice none 0 0) n)) := ((Same.refl (fun k => k = t) w).setCell (p := ⟨t, 1, none⟩) (fun _ => rfl) _).alloc _
  have hsz : (w.setCell ⟨t, 1, none⟩ (.int .i64 (c + 1))).heap.size = w.heap.size := by simp
  have hb : ((w.setCell ⟨t, 1, none⟩ (.int .i64 (c + 1))).alloc (nodeObj (.slice lo n cap) (.slice none 0 0) n)).heap[w.heap.size]? = some (nodeObj (.slice lo n cap) (.slice none 0 0) n) := by
    have h := heap_alloc_new (w.setCell ⟨t, 1, none⟩ (.int .i64 (c + 1))) (nodeObj (.slice lo n cap) (.slice none 0 0) n)
    rwa [hsz] at h
  have hh : ((w.setCell ⟨t, 1, none⟩ (.int .i64 (c + 1))).alloc (nodeObj (.slice lo n cap) (.slice none 0 0) n)).heap[t]? = some (headObj r (c + 1)) :=
    ((Same.refl (fun _ => False) (w.setCell ⟨t, 1, none⟩ (.int .i64 (c + 1)))).alloc _).obj (set_at ht) id
  have HS := Lib.hid hs; have HB := Lib.hid hb; have HH := Lib.hid hh
  clear hs hb hh ht h0 hsz
  go_enter Tryz.func57, Tryz.ntmps57
  go_wp2_with fail
  go_ret
  exact ⟨_, rfl, Nat.le_refl _, HB.out, HH.out, HS.out⟩

theorem size_any {w : World} {b ln kn : Nat} {lo ko : Option Addr} {lc kc : Nat} {n : Int} (hb : w.heap[b]? = some (nodeObj (.slice lo ln lc) (.slice ko kn kc) n)) (h1 : ln ≤ 1000000) (h2 : kn ≤ 1000000) :
    Calls Tryz.prog 93 #[.pointer (some ⟨b, 0, none⟩)] w fun e w' => e = .returned (.int .i64 ((ln : Int) + kn)) ∧ Same (fun _ => False) w w' := by
  obtain ⟨c0, c1, c2, cf⟩ := node_cells hb
  have hlt := lt_of_block hb
  have hw : IntKind.i64.wrap ((ln : Int) + (kn : Int)) = (ln : Int) + (kn : Int) := IntWalk.i64_in _ (by omega)
  clear hb c2 cf
  go_enter Tryz.func93, Tryz.ntmps93
  go_upto_region 1 with fail
  go_region_held3 (fun w' => w'.cell? ⟨b, 0, none⟩ = some (.slice lo ln lc) ∧ w'.cell? ⟨b, 1, none⟩ = some (.slice ko kn kc))
    (exact ⟨c0, c1⟩)
    (fail)
  go_wp2_with fail
  go_ret
  exact ⟨rfl, ⟨rfl, rfl, rfl, Nat.le_refl _, fun _ _ _ => rfl⟩⟩

theorem len_any {w : World} {t b : Nat} {l k : Value} {n c : Int} (ht : w.heap[t]? = some (headObj (.pointer (some ⟨b, 0, none⟩)) c)) (hb : w.heap[b]? = some (nodeObj l k n)) :
    Calls Tryz.prog 38 #[.pointer (some ⟨t, 0, none⟩)] w fun e w' => e = .returned (.int .i64 n) ∧ w = w' := by
  obtain ⟨h0, h1, hf⟩ := head_cells ht
  obtain ⟨c0, c1, c2, cf⟩ := node_cells hb
  have hlt := lt_of_block ht
  have hlb := lt_of_block hb
  clear ht hb h1 hf c0 c1 cf
  go_enter Tryz.func38, Tryz.ntmps38
  go_wp2_with fail
  go_ret
  exact ⟨rfl, rfl⟩

theorem len_none {w : World} {t : Nat} {c : Int} (ht : w.heap[t]? = some (headObj (.pointer none) c)) :
    Calls Tryz.prog 38 #[.pointer (some ⟨t, 0, none⟩)] w fun e w' => e = .returned (.int .i64 0) ∧ w = w' := by
  obtain ⟨h0, h1, hf⟩ := head_cells ht
  have hlt := lt_of_block ht
  clear ht h1 hf
  go_enter Tryz.func38, Tryz.ntmps38
  go_wp2_with fail
  go_ret
  exact ⟨rfl, rfl⟩

end Go.Proofs.YtgfmemggfbgjeaaGreatDoor

namespace Go.Proofs.YtgfmemggfbgjeaaGreatDoor
open Go.RowKit

@[go_sem] theorem run_store_float (P : Program) (w : World) (a : Addr) (m : Mode) (k : FloatKind) (n : Nat) : (store a (.float k n) m).run P w = stored P w a (.float k n) m := run_store P w a _ m rfl

/-- A value: its kind, its integer, its text, its float's bits. -/
structure V where
  k : Int
  i : Int
  s : ByteArray
  f : Nat

def V.cells (v : V) : List Value := [.int .i64 v.k, .int .i64 v.i, .string v.s, .float .f64 v.f]
abbrev V.val (v : V) : Value := .agg #[.int .i64 v.k, .int .i64 v.i, .string v.s, .float .f64 v.f]
abbrev V.obj (v : V) : Obj := .cells #[.int .i64 v.k, .int .i64 v.i, .string v.s, .float .f64 v.f] 39

/-- What each field of a value may hold. -/
structure V.ok (v : V) : Prop where
  k0 : -9223372036854775808 ≤ v.k
  k1 : v.k ≤ 9223372036854775807
  i0 : -9223372036854775808 ≤ v.i
  i1 : v.i ≤ 9223372036854775807
  s1 : v.s.size ≤ maxLen
  f1 : v.f < 18446744073709551616

/-- A float's place among all floats. -/
def ord (f : Nat) : Nat := if f < 9223372036854775808 then f + 9223372036854775808 else 18446744073709551615 - f

theorem and_top {f : Nat} (h : f < 2^63) : f &&& 2^63 = 0 := by
  apply Nat.eq_of_testBit_eq
  intro i
  rw [Nat.testBit_and, Nat.testBit_two_pow, Nat.zero_testBit]
  by_cases hi : 63 = i
  · subst hi; simp [Nat.testBit_lt_two_pow h]
  · simp [hi]

theorem and_top' {f : Nat} (h : 2^63 ≤ f) (h2 : f < 2^64) : f &&& 2^63 = 2^63 := by
  have hf : f.testBit 63 = true := by
    rw [Nat.testBit_eq_decide_div_mod_eq]; simp; omega
  apply Nat.eq_of_testBit_eq
  intro i
  rw [Nat.testBit_and, Nat.testBit_two_pow]
  by_cases hi : 63 = i
  · subst hi; simp [hf]
  · simp [hi]

theorem or_top {f : Nat} (h : f < 2^63) : f ||| 2^63 = f + 2^63 := by
  have := Nat.two_pow_add_eq_or_of_lt h 1
  rw [Nat.mul_one] at this
  rw [Nat.or_comm, ← this, Nat.add_comm]

theorem not_top {f : Nat} (h : f < 2^64) : (2^64-1) ^^^ f = 2^64 - 1 - f := by
  apply Nat.eq_of_testBit_eq
  intro i
  rw [Nat.testBit_xor, Nat.testBit_two_pow_sub_one, show 2^64 - 1 - f = 2^64 - (f+1) by omega, Nat.testBit_two_pow_sub_succ h]
  by_cases hi : i < 64
  · simp [hi]
  · have : f.testBit i = false := Nat.testBit_lt_two_pow (Nat.lt_of_lt_of_le h (Nat.pow_le_pow_right (by omega) (by omega)))
    simp [hi, this]

theorem bits_and_low {f : Nat} (h : f < 9223372036854775808) : bits .and .u64 (f : Int) 9223372036854775808 = 0 := by
  have := bits_and_u64_nat f 9223372036854775808 (by omega) (by omega)
  rw [show (9223372036854775808 : Nat) = 2^63 from rfl, and_top h] at this
  exact this

theorem bits_and_high {f : Nat} (h : 9223372036854775808 ≤ f) (h2 : f < 18446744073709551616) : bits .and .u64 (f : Int) 9223372036854775808 = 9223372036854775808 := by
  have := bits_and_u64_nat f 9223372036854775808 (by omega) (by omega)
  rw [show (9223372036854775808 : Nat) = 2^63 from rfl, and_top' h h2] at this
  exact this

theorem bits_or_low {f : Nat} (h : f < 9223372036854775808) : bits .or .u64 (f : Int) 9223372036854775808 = (f + 9223372036854775808 : Nat) := by
  have := bits_or_u64_nat f 9223372036854775808 (by omega) (by omega)
  rw [show (9223372036854775808 : Nat) = 2^63 from rfl, or_top h] at this
  exact this

theorem bits_not {f : Nat} (h2 : f < 18446744073709551616) : bits .xor .u64 IntKind.u64.max (f : Int) = (18446744073709551615 - f : Nat) := by
  have := bits_xor_u64_nat 18446744073709551615 f (by omega) h2
  rw [show (18446744073709551615 : Nat) = 2^64 - 1 from rfl, not_top h2] at this
  exact this

theorem bits_call (f : Nat) (w : World) : (callFunc 96 #[.float .f64 f]).run Tryz.prog w = .ok (.value (.int .u64 f)) w := by kernel_rfl

theorem ord_low {f : Nat} (h : f < 9223372036854775808) : ord f = f + 9223372036854775808 := by unfold ord; rw [if_pos h]
theorem ord_high {f : Nat} (h : ¬ f < 9223372036854775808) : ord f = 18446744073709551615 - f := by unfold ord; rw [if_neg h]

theorem ret_u64 {a b : Int} (h : a = b) : Ending.returned (.int .u64 a) = .returned (.int .u64 b) := by rw [h]

end Go.Proofs.YtgfmemggfbgjeaaGreatDoor

namespace Go.Proofs.YtgfmemggfbgjeaaGreatDoor
open Go.RowKit

/-- The document's values. -/
def isV (v : V) : Bool :=
  if v.k = 1 then v.s.toList.isEmpty && v.f == 0
  else if v.k = 2 then (v.i == 0 || v.i == 1) && v.s.toList.isEmpty && v.f == 0
  else if v.k = 3 ∨ v.k = 4 then decide (v.s.size ≤ 60) && v.i == 0 && v.f == 0
  else if v.k = 5 then v.i == 0 && v.s.toList.isEmpty
  else false

theorem ord_plain (f : Nat) (hf : f < 18446744073709551616) : ((ord f : Int) == 9223372036854775808) = (f == 0) := by
  unfold ord
  split
  · rw [Bool.eq_iff_iff]; simp; omega
  · rw [Bool.eq_iff_iff]; simp; omega

theorem ret_bool {a b : Bool} (h : a = b) : Ending.returned (.bool a) = .returned (.bool b) := by rw [h]

end Go.Proofs.YtgfmemggfbgjeaaGreatDoor
