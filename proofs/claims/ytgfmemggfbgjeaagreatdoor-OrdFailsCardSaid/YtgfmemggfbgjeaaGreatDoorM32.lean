/-
  rialtoref7.lower: small letters. Condition: a text of at most 1000 bytes. rialtoref1.Of: the float that stands at a place. Conditions: none. (Printed by wip/tools/reff_gen.py.) rialtoref7.Extract: what each of the statements' extractors tells. Conditions: few values, short texts.
-/
import Derived.Test.YtgfmemggfbgjeaaGreatDoorM31
import Derived.Laws.IdiomStrings
import Derived.Deep.QuietTactic
import Derived.BigQuiet
import Derived.Test.YtgfmemggfbgjeaaGreatDoorM3
namespace Go.Proofs.YtgfmemggfbgjeaaGreatDoor
open Go.RowKit Go.Lib
set_option maxRecDepth 1000000

def lowB (b : UInt8) : UInt8 := if 65 ≤ b.toNat ∧ b.toNat ≤ 90 then UInt8.ofNat (b.toNat + 32) else b
def lowerS (s : ByteArray) : ByteArray := ⟨(s.data.toList.map lowB).toArray⟩

theorem lowerS_size (s : ByteArray) : (lowerS s).size = s.size := by
  show (s.data.toList.map lowB).toArray.size = s.data.size
  rw [List.size_toArray, List.length_map, Array.length_toList]

/-- The row of bytes, lowered up to k. -/
def LowAt (w0 : World) (s : ByteArray) (k : Nat) (wr : World) : Prop :=
  Same (fun _ => False) w0 wr ∧ ∃ (cur : Array Value) (m : Nat), wr.heap[w0.heap.size]? = some (.cells cur 5 (cur.size, m)) ∧ s.size ≤ cur.size ∧
    ∀ j, j < s.size → cur[j]? = some (.int .u8 ((if j < k then lowB (s.data.toList.getD j 0) else s.data.toList.getD j 0).toNat : Int))

theorem LowAt.cell {w0 wr : World} {s : ByteArray} {k j : Nat} (h : LowAt w0 s k wr) (hj : j < s.size) : wr.cell? ⟨w0.heap.size, j, none⟩ = some (.int .u8 ((if j < k then lowB (s.data.toList.getD j 0) else s.data.toList.getD j 0).toNat : Int)) := by
  obtain ⟨_, cur, m, h1, _, h3⟩ := h
  simp only [World.cell?, h1]
  simpa using h3 j hj

theorem LowAt.free {w0 wr : World} {s : ByteArray} {k j : Nat} (h : LowAt w0 s k wr) (hj : j < s.size) : wr.frozen? ⟨w0.heap.size, j, none⟩ = false := by
  obtain ⟨_, cur, m, h1, h2, _⟩ := h
  simp only [World.frozen?, h1]
  simp
  omega

theorem LowAt.skip {w0 wr : World} {s : ByteArray} {k : Nat} (h : LowAt w0 s k wr) (hl : lowB (s.data.toList.getD k 0) = s.data.toList.getD k 0) : LowAt w0 s (k + 1) wr := by
  obtain ⟨h0, cur, m, h1, h2, h3⟩ := h
  refine ⟨h0, cur, m, h1, h2, fun j hj => ?_⟩
  rw [h3 j hj]
  by_cases e : j = k
  · subst e
    rw [if_neg (by omega), if_pos (by omega), hl]
  · by_cases hjk : j < k
    · rw [if_pos hjk, if_pos (by omega)]
    · rw [if_neg hjk, if_neg (by omega)]

theorem LowAt.set {w0 wr : World} {s : ByteArray} {k : Nat} (h : LowAt w0 s k wr) (hk : k < s.size) (n : Int) (hn : n = ((lowB (s.data.toList.getD k 0)).toNat : Int)) : LowAt w0 s (k + 1) (wr.setCell ⟨w0.heap.size, k, none⟩ (.int .u8 n)) := by
  obtain ⟨h0, cur, m, h1, h2, h3⟩ := h
  refine ⟨h0.setCell (p := ⟨w0.heap.size, k, none⟩) (fun (h : w0.heap.size < w0.heap.size) => by omega) _, cur.setIfInBounds k (.int .u8 n), m, ?_, by simpa using h2, fun j hj => ?_⟩
  · rw [Array.size_setIfInBounds]
    exact vset_at h1
  · by_cases e : j = k
    · subst e
      rw [Array.getElem?_setIfInBounds_self_of_lt (by omega), if_pos (by omega), hn]
    · rw [Array.getElem?_setIfInBounds_ne (fun h => e h.symm), h3 j hj]
      by_cases hjk : j < k
      · rw [if_pos hjk, if_pos (by omega)]
      · rw [if_neg hjk, if_neg (by omega)]

theorem byte_le (b : UInt8) : b.toNat ≤ 255 := by have := b.toNat_lt; omega

set_option maxHeartbeats 4000000 in
theorem lower_any (s : ByteArray) (hs : s.size ≤ 1000) (w : World) :
    Calls Tryz.prog 74 #[.string s] w fun e w' => e = .returned (.string (lowerS s)) ∧ Same (fun _ => False) w w' := by
  have hconv := fun w => run_bytes_of_string (P := Tryz.prog) w 9 69 5 s Tryz.underlying9 Tryz.underlying69 Tryz.underlying5
  have hL0 : ∀ cap, LowAt w s 0 (w.drew.alloc (.cells (bytesRow s cap) 5 ((bytesRow s cap).size, (bytesRow s cap).size + 1))) := fun cap => by
    refine ⟨(Same.refl _ w).drew.alloc _, bytesRow s cap, (bytesRow s cap).size + 1, heap_alloc_new w.drew _, ?_, fun j hj => ?_⟩
    · show s.data.size ≤ (bytesRow s cap).size
      unfold bytesRow
      rw [Array.size_append, Array.size_map]
      exact Nat.le_add_right _ _
    · rw [bytesRow_at s cap j hj, if_neg (by omega)]
      have e : s.data.toList.getD j 0 = s.data[j] := by
        rw [List.getD_eq_getElem?_getD, Array.getElem?_toList, Array.getElem?_eq_getElem hj]
        rfl
      rw [e]
  have HL0 := Lib.hid hL0
  clear hL0
  go_enter Tryz.func74, Tryz.ntmps74
  go_wp2_with fail
  generalize grownCap w s.size 0 5 = cap at *
  have HL1 := Lib.hid (show LowAt w s 0 (w.alloc (.cells (bytesRow s cap) 5 ((bytesRow s cap).size, (bytesRow s cap).size + 1))).drew from HL0.out cap)
  clear hconv HL0
  generalize hw1 : (w.alloc (.cells (bytesRow s cap) 5 ((bytesRow s cap).size, (bytesRow s cap).size + 1))).drew = w1 at *
  clear hw1
  go_loopg [4] s.size (fun r i wr => ∃ k : Nat, k + r = s.size ∧ i = .int .i64 k ∧ LowAt w s k wr)
  case atStart => exact ⟨0, by omega, rfl, HL1.out⟩
  case round =>
    obtain ⟨k, hk, rfl, hL⟩ := hrel
    have HL := Lib.hid hL
    clear hL HL1
    by_cases hlt : k < s.size
    · obtain ⟨r, rfl⟩ : ∃ r, gk = r + 1 := ⟨gk - 1, by omega⟩
      have HK := Lib.hid hk
      have c0 := HL.out.cell hlt
      rw [if_neg (Nat.lt_irrefl k)] at c0
      have f0 := HL.out.free hlt
      have hb255 := byte_le (s.data.toList.getD k 0)
      obtain ⟨x, hx⟩ : ∃ x, x = s.data.toList.getD k 0 := ⟨_, rfl⟩
      rw [← hx] at c0 hb255
      have HX := Lib.hid hx
      have HLT := Lib.hid hlt
      have hkc : k < s.size := hlt
      clear hx hk
      by_cases h65 : 65 ≤ x.toNat
      · have g65 : (65 : Int) ≤ (x.toNat : Int) := by omega
        by_cases h90 : x.toNat ≤ 90
        · have g90 : (x.toNat : Int) ≤ 90 := by omega
          have hw : IntKind.u8.wrap ((x.toNat : Int) + 32) = (x.toNat : Int) + 32 := by
            have : IntKind.u8.wrap ((x.toNat : Int) + 32) = ((x.toNat : Int) + 32) % 256 := rfl
            rw [this]; omega
          have hset := HL.out.set HLT.out ((x.toNat : Int) + 32) (by
            rw [← HX.out]
            unfold lowB
            rw [if_pos ⟨h65, h90⟩, UInt8.toNat_ofNat']
            omega)
          have HSET := Lib.hid hset
          clear hset h65 h90 hb255
          go_wp2_with fail
          go_roundg r
          case measure => omega
          case rel => exact ⟨k + 1, by have := HK.out; omega, by go_num, HSET.out⟩
        · have g90 : ¬ (x.toNat : Int) ≤ 90 := by omega
          have hsk := HL.out.skip (by rw [← HX.out]; unfold lowB; rw [if_neg (fun h => h90 h.2)])
          have HSK := Lib.hid hsk
          clear hsk h65 h90 hb255
          go_wp2_with fail
          go_roundg r
          case measure => omega
          case rel => exact ⟨k + 1, by have := HK.out; omega, by go_num, HSK.out⟩
      · have g65 : ¬ (65 : Int) ≤ (x.toNat : Int) := by omega
        have hsk := HL.out.skip (by rw [← HX.out]; unfold lowB; rw [if_neg (fun h => h65 h.1)])
        have HSK := Lib.hid hsk
        clear hsk h65 hb255
        go_wp2_with fail
        go_roundg r
        case measure => omega
        case rel => exact ⟨k + 1, by have := HK.out; omega, by go_num, HSK.out⟩
    · obtain rfl : k = s.size := by omega
      have hback := run_convert_bytes_back (P := Tryz.prog) wr 69 9 5 ⟨w.heap.size, 0, none⟩ cap (s.data.toList.map lowB) Tryz.underlying69 Tryz.underlying5 Tryz.underlying9 (fun j hj => by
        have hj' : j < s.size := by
          rw [List.length_map, Array.length_toList] at hj
          exact hj
        rw [Addr.add_lit, Nat.zero_add, HL.out.cell hj', if_pos hj', List.getElem_map]
        congr 3
        rw [List.getD_eq_getElem?_getD, List.getElem?_eq_getElem (by rw [Array.length_toList]; exact hj')]
        rfl)
      rw [show (s.data.toList.map lowB).length = s.size by rw [List.length_map, Array.length_toList]; rfl] at hback
      have HS := Lib.hid HL.out.1
      clear hk hlt
      go_wp2_with fail
      go_ret
      exact ⟨rfl, HS.out⟩

end Go.Proofs.YtgfmemggfbgjeaaGreatDoor

namespace Go.Proofs.YtgfmemggfbgjeaaGreatDoor
open Go.RowKit
set_option maxRecDepth 100000

/-- The float that stands at a place. -/
def ofF (n : Nat) : Nat := if n < 9223372036854775808 then 18446744073709551615 - n else n - 9223372036854775808

theorem ofF_low {n : Nat} (h : n < 9223372036854775808) : ofF n = 18446744073709551615 - n := by unfold ofF; rw [if_pos h]
theorem ofF_high {n : Nat} (h : ¬ n < 9223372036854775808) : ofF n = n - 9223372036854775808 := by unfold ofF; rw [if_neg h]
theorem ofF_lt {n : Nat} (h : n < 18446744073709551616) : ofF n < 18446744073709551616 := by unfold ofF; split <;> omega
theorem ofF_ord {f : Nat} (h : f < 18446744073709551616) : ofF (ord f) = f := by
  unfold ofF ord
  split <;> split <;> omega

theorem frombits_call (n : Nat) (w : World) : (callFunc 95 #[.int .u64 n]).run Tryz.prog w = .ok (.value (.float .f64 n)) w := by kernel_rfl

theorem bits_xor_high {f : Nat} (h : ¬ f < 9223372036854775808) (h2 : f < 18446744073709551616) : bits .xor .u64 (f : Int) 9223372036854775808 = (f - 9223372036854775808 : Nat) := by
  have := bits_xor_u64_nat f 9223372036854775808 h2 (by omega)
  rw [show f ^^^ 9223372036854775808 = f - 9223372036854775808 from ?_] at this
  · exact this
  · have h3 : f - 2 ^ 63 < 2 ^ 63 := by omega
    have h4 := Nat.two_pow_add_eq_or_of_lt h3 1
    have h5 : f = (f - 2 ^ 63) ||| 2 ^ 63 := by rw [Nat.or_comm, show (2:Nat)^63 = 2^63 * 1 by omega, ← h4]; omega
    apply Nat.eq_of_testBit_eq
    intro i
    have h6 : f.testBit i = ((f - 2 ^ 63).testBit i || (2 ^ 63).testBit i) := by
      have := congrArg (fun x => Nat.testBit x i) h5
      simpa using this
    show (f ^^^ 2 ^ 63).testBit i = (f - 2 ^ 63).testBit i
    rw [Nat.testBit_xor, h6, Nat.testBit_two_pow]
    by_cases hi : 63 = i
    · subst hi; simp [Nat.testBit_lt_two_pow h3]
    · simp [hi]

theorem ret_f64 {a b : Nat} (h : a = b) : Ending.returned (.float .f64 a) = .returned (.float .f64 b) := by rw [h]

theorem rof_any (n : Nat) (hn : n < 18446744073709551616) (w : World) :
    Calls Tryz.prog 75 #[.int .u64 n] w fun e w' => e = .returned (.float .f64 (ofF n)) ∧ w = w' := by
  by_cases h : n < 9223372036854775808
  · have hand := shr63_low h
    have hnot := bits_not hn
    have hc := frombits_call (18446744073709551615 - n) w
    have HO := Lib.hid (ofF_low h)
    go_enter Tryz.func75, Tryz.ntmps75
    go_wp2_with fail
    go_ret
    exact ⟨ret_f64 HO.out.symm, rfl⟩
  · have hand := shr63_high h hn
    have hnot := bits_xor_high h hn
    have hc := frombits_call (n - 9223372036854775808) w
    have HO := Lib.hid (ofF_high h)
    go_enter Tryz.func75, Tryz.ntmps75
    go_wp2_with fail
    go_ret
    exact ⟨ret_f64 HO.out.symm, rfl⟩

end Go.Proofs.YtgfmemggfbgjeaaGreatDoor

namespace Go.Proofs.YtgfmemggfbgjeaaGreatDoor
open Go.RowKit Go.Lib
set_option maxRecDepth 1000000

/-- What the loop holds. -/
structure ExS where
  sum : Int
  first : ByteArray
  f : Nat
  hs : Bool
  hf : Bool
  hi : Bool
  bit : Int
  low : V

def exInit : ExS := ⟨0, ⟨#[]⟩, 0, false, false, false, 0, V.nil⟩

def exStep (st : ExS) (j : Nat) (x : V) : ExS :=
  { sum := if x.k = 1 then wrap64 (st.sum + x.i) else st.sum
    bit := if x.k = 1 ∧ st.hi = false then x.i % 2 else st.bit
    hi := st.hi || decide (x.k = 1)
    first := if x.k = 3 ∧ st.hs = false then x.s else st.first
    hs := st.hs || decide (x.k = 3)
    f := if x.k = 5 ∧ st.hf = false then x.f else st.f
    hf := st.hf || decide (x.k = 5)
    low := if j = 0 then x else st.low }

def exAt (L : List V) : Nat → ExS
  | 0 => exInit
  | j + 1 => match L[j]? with
    | none => exAt L j
    | some x => exStep (exAt L j) j x

theorem exAt_succ {L : List V} {j : Nat} {x : V} (h : L[j]? = some x) : exAt L (j + 1) = exStep (exAt L j) j x := by simp [exAt, h]

/-- What the extractor with number n tells. -/
def exV (n : Int) (L : List V) : V :=
  let st := exAt L L.length
  if n = 0 then ⟨1, st.sum, ⟨#[]⟩, 0⟩
  else if n = 1 then ⟨3, 0, lowerS st.first, 0⟩
  else if n = 2 then (if st.hf then ⟨5, 0, ⟨#[]⟩, ofF (18446744073709551615 - ord st.f)⟩ else ⟨5, 0, ⟨#[]⟩, 0⟩)
  else if n = 3 then ⟨1, bits .xor .i64 L.length st.bit, ⟨#[]⟩, 0⟩
  else st.low

/-- What holds of what the loop holds. -/
structure ExOk (st : ExS) : Prop where
  s0 : -9223372036854775808 ≤ st.sum
  s1 : st.sum ≤ 9223372036854775807
  sz : st.first.size ≤ 200
  f1 : st.f < 18446744073709551616
  b0 : 0 ≤ st.bit
  b1 : st.bit ≤ 1
  lok : st.low.ok

theorem ok_mk {k i : Int} {s : ByteArray} {f : Nat} (h0 : -9223372036854775808 ≤ k) (h1 : k ≤ 9223372036854775807) (h2 : -9223372036854775808 ≤ i) (h3 : i ≤ 9223372036854775807) (h4 : s.size ≤ 1000) (h5 : f < 18446744073709551616) : (V.mk k i s f).ok :=
  ⟨h0, h1, h2, h3, by unfold maxLen; show s.size ≤ _; omega, h5⟩

theorem no_bytes : (ByteArray.mk #[]).size ≤ 200 := Nat.zero_le _

theorem nil_ok : V.nil.ok := ok_mk (by omega) (by omega) (by omega) (by omega) (Nat.le_trans no_bytes (by omega)) (by omega)

theorem exInit_ok : ExOk exInit := ⟨by decide, by decide, no_bytes, by decide, by decide, by decide, nil_ok⟩

theorem wrap_range (x : Int) : -9223372036854775808 ≤ IntKind.i64.wrap x ∧ IntKind.i64.wrap x ≤ 9223372036854775807 := by
  rw [IntKind.wrap_i64]
  omega

theorem exStep_ok {st : ExS} {j : Nat} {x : V} (h : ExOk st) (hx : x.ok) (hs : x.s.size ≤ 200) : ExOk (exStep st j x) := by
  have hw : -9223372036854775808 ≤ wrap64 (st.sum + x.i) ∧ wrap64 (st.sum + x.i) ≤ 9223372036854775807 := by unfold wrap64; omega
  obtain ⟨a1, a2, a3, a4, a5, a6, a7⟩ := h
  refine ⟨?_, ?_, ?_, ?_, ?_, ?_, ?_⟩
  · simp only [exStep]; split
    · exact hw.1
    · exact a1
  · simp only [exStep]; split
    · exact hw.2
    · exact a2
  · simp only [exStep]; split
    · exact hs
    · exact a3
  · simp only [exStep]; split
    · exact hx.f1
    · exact a4
  · simp only [exStep]; split
    · omega
    · exact a5
  · simp only [exStep]; split
    · omega
    · exact a6
  · simp only [exStep]; split
    · exact hx
    · exact a7

theorem exAt_ok {L : List V} (hok : ∀ x ∈ L, x.ok) (hs : ∀ x ∈ L, x.s.size ≤ 200) : ∀ j, ExOk (exAt L j)
  | 0 => exInit_ok
  | j + 1 => by
    unfold exAt
    cases h : L[j]? with
    | none => exact exAt_ok hok hs j
    | some x => exact exStep_ok (exAt_ok hok hs j) (hok x (List.mem_of_getElem? h)) (hs x (List.mem_of_getElem? h))

theorem bits_range (op : BinOp) (x y : Int) : -9223372036854775808 ≤ bits op .i64 x y ∧ bits op .i64 x y ≤ 9223372036854775807 := by
  unfold bits
  exact wrap_range _

theorem exV_ok {n : Int} {L : List V} (hok : ∀ x ∈ L, x.ok) (hs : ∀ x ∈ L, x.s.size ≤ 200) : (exV n L).ok := by
  have h := exAt_ok hok hs L.length
  have hb := bits_range .xor L.length (exAt L L.length).bit
  unfold exV
  simp only
  split
  · exact ok_mk (by omega) (by omega) h.s0 h.s1 (Nat.le_trans no_bytes (by omega)) (by omega)
  · split
    · exact ok_mk (by omega) (by omega) (by omega) (by omega) (by rw [lowerS_size]; have := h.sz; omega) (by omega)
    · split
      · split
        · exact ok_mk (by omega) (by omega) (by omega) (by omega) (Nat.le_trans no_bytes (by omega)) (ofF_lt (by omega))
        · exact ok_mk (by omega) (by omega) (by omega) (by omega) (Nat.le_trans no_bytes (by omega)) (by omega)
      · split
        · exact ok_mk (by omega) (by omega) hb.1 hb.2 (Nat.le_trans no_bytes (by omega)) (by omega)
        · exact h.lok

end Go.Proofs.YtgfmemggfbgjeaaGreatDoor
