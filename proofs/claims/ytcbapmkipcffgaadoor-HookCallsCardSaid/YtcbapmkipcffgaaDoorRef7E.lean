/-
  rialtoref7.Extract: what each of the statements' extractors tells. Conditions: few values, short texts.
-/
import Derived.Test.YtcbapmkipcffgaaDoorLower
import Derived.Test.YtcbapmkipcffgaaDoorRefF
namespace Go.Proofs.YtcbapmkipcffgaaDoor
open Go.RowKit Go.Lib
set_option maxRecDepth 1000000

/-- What the loop holds. -/
structure ExS where
  sum : Int
  first : ByteArray
  f : Nat
  hs : Bool
  hf : Bool
  hi : Bool
  bit : Int
  low : V

def exInit : ExS := ⟨0, ⟨#[]⟩, 0, false, false, false, 0, V.nil⟩

def exStep (st : ExS) (j : Nat) (x : V) : ExS :=
  { sum := if x.k = 1 then wrap64 (st.sum + x.i) else st.sum
    bit := if x.k = 1 ∧ st.hi = false then x.i % 2 else st.bit
    hi := st.hi || decide (x.k = 1)
    first := if x.k = 3 ∧ st.hs = false then x.s else st.first
    hs := st.hs || decide (x.k = 3)
    f := if x.k = 5 ∧ st.hf = false then x.f else st.f
    hf := st.hf || decide (x.k = 5)
    low := if j = 0 then x else st.low }

def exAt (L : List V) : Nat → ExS
  | 0 => exInit
  | j + 1 => match L[j]? with
    | none => exAt L j
    | some x => exStep (exAt L j) j x

theorem exAt_succ {L : List V} {j : Nat} {x : V} (h : L[j]? = some x) : exAt L (j + 1) = exStep (exAt L j) j x := by simp [exAt, h]

/-- What the extractor with number n tells. -/
def exV (n : Int) (L : List V) : V :=
  let st := exAt L L.length
  if n = 0 then ⟨1, st.sum, ⟨#[]⟩, 0⟩
  else if n = 1 then ⟨3, 0, lowerS st.first, 0⟩
  else if n = 2 then (if st.hf then ⟨5, 0, ⟨#[]⟩, ofF (18446744073709551615 - ord st.f)⟩ else ⟨5, 0, ⟨#[]⟩, 0⟩)
  else if n = 3 then ⟨1, bits .xor .i64 L.length st.bit, ⟨#[]⟩, 0⟩
  else st.low

/-- What holds of what the loop holds. -/
structure ExOk (st : ExS) : Prop where
  s0 : -9223372036854775808 ≤ st.sum
  s1 : st.sum ≤ 9223372036854775807
  sz : st.first.size ≤ 200
  f1 : st.f < 18446744073709551616
  b0 : 0 ≤ st.bit
  b1 : st.bit ≤ 1
  lok : st.low.ok

theorem ok_mk {k i : Int} {s : ByteArray} {f : Nat} (h0 : -9223372036854775808 ≤ k) (h1 : k ≤ 9223372036854775807) (h2 : -9223372036854775808 ≤ i) (h3 : i ≤ 9223372036854775807) (h4 : s.size ≤ 1000) (h5 : f < 18446744073709551616) : (V.mk k i s f).ok :=
  ⟨h0, h1, h2, h3, by unfold maxLen; show s.size ≤ _; omega, h5⟩

theorem no_bytes : (ByteArray.mk #[]).size ≤ 200 := Nat.zero_le _

theorem nil_ok : V.nil.ok := ok_mk (by omega) (by omega) (by omega) (by omega) (Nat.le_trans no_bytes (by omega)) (by omega)

theorem exInit_ok : ExOk exInit := ⟨by decide, by decide, no_bytes, by decide, by decide, by decide, nil_ok⟩

theorem wrap_range (x : Int) : -9223372036854775808 ≤ IntKind.i64.wrap x ∧ IntKind.i64.wrap x ≤ 9223372036854775807 := by
  rw [IntKind.wrap_i64]
  omega

theorem exStep_ok {st : ExS} {j : Nat} {x : V} (h : ExOk st) (hx : x.ok) (hs : x.s.size ≤ 200) : ExOk (exStep st j x) := by
  have hw : -9223372036854775808 ≤ wrap64 (st.sum + x.i) ∧ wrap64 (st.sum + x.i) ≤ 9223372036854775807 := by unfold wrap64; omega
  obtain ⟨a1, a2, a3, a4, a5, a6, a7⟩ := h
  refine ⟨?_, ?_, ?_, ?_, ?_, ?_, ?_⟩
  · simp only [exStep]; split
    · exact hw.1
    · exact a1
  · simp only [exStep]; split
    · exact hw.2
    · exact a2
  · simp only [exStep]; split
    · exact hs
    · exact a3
  · simp only [exStep]; split
    · exact hx.f1
    · exact a4
  · simp only [exStep]; split
    · omega
    · exact a5
  · simp only [exStep]; split
    · omega
    · exact a6
  · simp only [exStep]; split
    · exact hx
    · exact a7

theorem exAt_ok {L : List V} (hok : ∀ x ∈ L, x.ok) (hs : ∀ x ∈ L, x.s.size ≤ 200) : ∀ j, ExOk (exAt L j)
  | 0 => exInit_ok
  | j + 1 => by
    unfold exAt
    cases h : L[j]? with
    | none => exact exAt_ok hok hs j
    | some x => exact exStep_ok (exAt_ok hok hs j) (hok x (List.mem_of_getElem? h)) (hs x (List.mem_of_getElem? h))

theorem bits_range (op : BinOp) (x y : Int) : -9223372036854775808 ≤ bits op .i64 x y ∧ bits op .i64 x y ≤ 9223372036854775807 := by
  unfold bits
  exact wrap_range _

theorem exV_ok {n : Int} {L : List V} (hok : ∀ x ∈ L, x.ok) (hs : ∀ x ∈ L, x.s.size ≤ 200) : (exV n L).ok := by
  have h := exAt_ok hok hs L.length
  have hb := bits_range .xor L.length (exAt L L.length).bit
  unfold exV
  simp only
  split
  · exact ok_mk (by omega) (by omega) h.s0 h.s1 (Nat.le_trans no_bytes (by omega)) (by omega)
  · split
    · exact ok_mk (by omega) (by omega) (by omega) (by omega) (by rw [lowerS_size]; have := h.sz; omega) (by omega)
    · split
      · split
        · exact ok_mk (by omega) (by omega) (by omega) (by omega) (Nat.le_trans no_bytes (by omega)) (ofF_lt (by omega))
        · exact ok_mk (by omega) (by omega) (by omega) (by omega) (Nat.le_trans no_bytes (by omega)) (by omega)
      · split
        · exact ok_mk (by omega) (by omega) hb.1 hb.2 (Nat.le_trans no_bytes (by omega)) (by omega)
        · exact h.lok

end Go.Proofs.YtcbapmkipcffgaaDoor
