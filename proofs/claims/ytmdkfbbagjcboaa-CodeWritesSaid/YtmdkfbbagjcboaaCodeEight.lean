/-
  The document's answer lays eight bytes of a number, the highest first. Conditions: none on inputs but small lengths.
-/
import Derived.Test.YtmdkfbbagjcboaaCodeNum
namespace Go.Proofs.Ytmdkfbbagjcboaa
open Go.RowKit

set_option maxHeartbeats 400000 in
theorem eight_any {w : World} {B : Nat} {v : Value} {l : List UInt8} (h : w.ownsRow B 5 1 v l.length (bytesV l)) (hB : B ≤ w.heap.size) (hl : l.length ≤ 1000000) (n : Nat) (_hn : n < 18446744073709551616) :
    Calls Try.prog 22 #[v, .int .u64 n] w fun e w' => ∃ v', e = .returned v' ∧ Bytes w B v w' v' (l ++ be8 n) := by
  have H := Lib.hid (Bytes.start h)
  clear h
  go_enter Try.func22, Try.ntmps22
  go_wp2_with fail
  go_loopg [0, 5] 8 (fun r v1 i wr => ∃ j : Nat, j + r = 8 ∧ i = .int .i64 (56 - 8 * (j : Int)) ∧ Bytes w B v wr v1 (l ++ (be8 n).take j))
  case atStart => exact ⟨0, rfl, rfl, by simpa using H.out⟩
  case round =>
    obtain ⟨j, hj, rfl, hb⟩ := hrel
    have HB := Lib.hid hb; clear hb
    by_cases h0 : gk = 0
    · subst h0
      obtain rfl : j = 8 := by omega
      clear hj
      go_wp2_with fail
      go_ret
      exact ⟨_, rfl, by have := HB.out; rwa [show (be8 n).take 8 = be8 n from rfl] at this⟩
    · obtain ⟨r, rfl⟩ : ∃ r, gk = r + 1 := ⟨gk - 1, by omega⟩
      have hj7 : j ≤ 7 := by omega
      obtain ⟨s, hs⟩ : ∃ s : Nat, s = 8 * (7 - j) := ⟨_, rfl⟩
      have hs1 : 56 - 8 * (j : Int) = (s : Int) := by omega
      have hs2 : ¬ (s : Int) < 0 := by omega
      have hs3 : (s : Int) ≤ 56 := by omega
      rw [hs1]
      have HJ := Lib.hid (And.intro hj (And.intro hs hs1)); clear hj h0 hs hs1
      have ho := HB.out.own
      have hsz := HB.out.same.size
      have hlen : (l ++ (be8 n).take j).length ≤ 1000010 := by
        rw [List.length_append, List.length_take]
        omega
      obtain ⟨L, hL⟩ : ∃ L, L = l ++ (be8 n).take j := ⟨_, rfl⟩
      have HBL : Hid (Bytes w B v wr u0 L) := by rw [hL]; exact HB.out
      rw [← hL] at ho hlen
      have HO := Lib.hid ho
      have HL := Lib.hid hL
      clear ho hL
      go_wp2_with (at_builtin; refine wpList_append_elem wr rfl _ _ 23 rfl B 5 (.int .u8 0) 1 1 Try.underlying23 byte_info rfl (by decide) u0 L.length (bytesV L) rfl HO.out [.int .u8 ((n : Int) / 2 ^ s % 256)] _ rfl rfl ?c1 ?c2 ?c3 ?c4 ?_)
      case c1 => first | rfl | (intro u hu; simp at hu; subst hu; rfl)
      case c2 => unfold maxLen; omega
      case c3 => omega
      case c4 => omega
      intro g cap w2 hown hgrow hwhere hgl hsl
      rw [HJ.out.2.1, byteAt_int] at hown
      have hb2 := HBL.out.next (Bytes.app hown hgrow hwhere)
      rw [HL.out, List.append_assoc, ← be8_take n j (by omega), ← HL.out] at hb2
      have HB2 := Lib.hid hb2
      clear hown hgrow hwhere hb2
      go_wp2_with fail
      go_roundg r
      case measure => omega
      case rel => exact ⟨j + 1, by have := HJ.out.1; omega, by have := HJ.out.2.2; go_num, HB2.out⟩

end Go.Proofs.Ytmdkfbbagjcboaa
