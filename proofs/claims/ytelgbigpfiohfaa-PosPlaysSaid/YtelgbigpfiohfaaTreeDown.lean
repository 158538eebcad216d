/-
  tree's down: below which node a place lies. Conditions: few nodes, small counts.
-/
import Derived.Test.YtelgbigpfiohfaaTreeAt
namespace Go.Proofs.Ytelgbigpfiohfaa
open Go.RowKit Go.Extern.Stop Go.Stop Go.Extern Go.Lib
set_option maxRecDepth 1000000

theorem sum_take (ns : List Int) (j : Nat) (m : Int) (h : ns[j]? = some m) : (ns.take (j + 1)).sum = (ns.take j).sum + m := by
  rw [List.take_add_one, h]
  simp

set_option maxHeartbeats 8000000 in
theorem down_any {w : World} {b : Nat} {l kv : Value} {n i : Int} {bs : List Nat} {ns : List Int} (hb : w.heap[b]? = some (nodeObj l kv n)) (hr : ReadC w 74 kv (ptrsV bs)) (hl : ns.length = bs.length)
    (hk : ∀ (j c : Nat) (m : Int), bs[j]? = some c → ns[j]? = some m → 0 ≤ m ∧ m ≤ 1000000 ∧ ∃ l k, w.heap[c]? = some (nodeObj l k m)) (h0 : 0 < bs.length) (hbn : bs.length ≤ 1000000) (i0 : 0 ≤ i) (i1 : i ≤ 1000000) :
    Calls Try.prog 54 #[.pointer (some ⟨b, 0, none⟩), .int .i64 i] w fun e w' => w = w' ∧ ∃ (j : Nat) (p : Int), e = .returned (.tuple #[.int .i64 j, .int .i64 p]) ∧ j < bs.length ∧ 0 ≤ p ∧ i = (ns.take j).sum + p ∧ (j + 1 = bs.length ∨ ∃ m, ns[j]? = some m ∧ p < m) := by
  obtain ⟨c0, c1, c2, cf⟩ := node_cells hb
  have hlb := lt_of_block hb
  obtain ⟨ko, kc, rfl, hc, _⟩ := hr
  have hlen : (ptrsV bs).length = bs.length := by simp
  rw [hlen] at c1 hb
  have HC := Lib.hid hc; have HK := Lib.hid hk; have HL := Lib.hid hl
  clear hb hc hk hl c0 c2 cf hlen
  go_enter Try.func54, Try.ntmps54
  go_wp2_with fail
  go_loopg [6, 1] bs.length (fun r kk ii wr => ∃ (j : Nat) (p : Int), j + r = bs.length ∧ kk = .int .i64 j ∧ ii = .int .i64 p ∧ j < bs.length ∧ 0 ≤ p ∧ p ≤ 1000000 ∧ i = (ns.take j).sum + p ∧ w = wr)
  case atStart => exact ⟨0, i, by omega, rfl, rfl, h0, i0, i1, by simp, rfl⟩
  case round =>
    obtain ⟨j, p, hjr, rfl, rfl, hj, hp0, hp1, hsum, rfl⟩ := hrel
    have HS := Lib.hid hsum
    clear hsum
    obtain ⟨bk, off, cs, fr, rfl, hbk, hx⟩ := HC.out j (.pointer (some ⟨bs[j], 0, none⟩)) (by simp [hj])
    have hm : ns[j]? = some (ns[j]'(by have := HL.out; omega)) := List.getElem?_eq_getElem _
    obtain ⟨m0, m1, lk, kk, hcd⟩ := HK.out j bs[j] _ (List.getElem?_eq_getElem hj) hm
    obtain ⟨_, _, n2, _⟩ := node_cells hcd
    have hlc := lt_of_block hcd
    have hlk := lt_of_block hbk
    have HM := Lib.hid hm
    have HSUM := Lib.hid (sum_take _ _ _ hm)
    generalize ns[j]'(by have := HL.out; omega) = m at *
    generalize bs[j] = c at *
    clear hcd hbk hm
    by_cases hlast : j + 1 < bs.length
    · have hl' : (j : Int) + 1 < (bs.length : Int) := by omega
      have hjb : (j : Int) < (bs.length : Int) := by omega
      by_cases hge : m ≤ p
      · go_wp2_with fail
        go_roundg (gk - 1)
        case measure => omega
        case rel => exact ⟨j + 1, p - m, by omega, by go_num, by go_num, hlast, by omega, by omega, by have := HS.out; have := HSUM.out; omega, rfl⟩
      · have hge' : p < m := by omega
        go_wp2_with fail
        go_ret2
        exact ⟨rfl, j, p, rfl, hj, hp0, HS.out, Or.inr ⟨m, HM.out, hge'⟩⟩
    · have hl' : ¬ (j : Int) + 1 < (bs.length : Int) := by omega
      go_wp2_with fail
      go_ret2
      exact ⟨rfl, j, p, rfl, hj, hp0, HS.out, Or.inl (by omega)⟩

end Go.Proofs.Ytelgbigpfiohfaa
