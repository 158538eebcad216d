/-
  Package code, told of memory: number lays eight bytes, the highest first. Conditions: none on inputs but small lengths.
-/
import Derived.Test.YtmdkfbbagjcboaaValIs
namespace Go.Proofs.Ytmdkfbbagjcboaa
open Go.RowKit

def bytesV (l : List UInt8) : List Value := l.map fun b => .int .u8 (b.toNat : Int)

theorem byte_info : (Try.prog.info? 5).map (fun i => (i.zero, i.size, i.bytes)) = some (some (.int .u8 0), 1, 1) := by kernel_rfl

/-- The byte of a number at a place, the lowest at 0. -/
def byteAt (n k : Nat) : UInt8 := UInt8.ofNat (n / 2 ^ (8 * k))

/-- Eight bytes of a number, the highest first. -/
def be8 (n : Nat) : List UInt8 := [byteAt n 7, byteAt n 6, byteAt n 5, byteAt n 4, byteAt n 3, byteAt n 2, byteAt n 1, byteAt n 0]

theorem be8_take (n j : Nat) (hj : j < 8) : (be8 n).take (j + 1) = (be8 n).take j ++ [byteAt n (7 - j)] := by
  unfold be8
  match j, hj with
  | 0, _ => rfl
  | 1, _ => rfl
  | 2, _ => rfl
  | 3, _ => rfl
  | 4, _ => rfl
  | 5, _ => rfl
  | 6, _ => rfl
  | 7, _ => rfl

theorem byteAt_int (n k : Nat) : (n : Int) / 2 ^ (8 * k) % 256 = ((byteAt n k).toNat : Int) := by
  unfold byteAt
  rw [UInt8.toNat_ofNat']
  show _ = ((n / 2 ^ (8 * k) % 256 : Nat) : Int)
  rw [Int.natCast_emod, Int.natCast_ediv, Int.natCast_pow]
  rfl

theorem bytesV_snoc (l : List UInt8) (b : UInt8) : bytesV (l ++ [b]) = bytesV l ++ [.int .u8 (b.toNat : Int)] := by simp [bytesV]
theorem bytesV_append (a b : List UInt8) : bytesV (a ++ b) = bytesV a ++ bytesV b := by simp [bytesV]
theorem bytesV_length (a : List UInt8) : (bytesV a).length = a.length := by simp [bytesV]

/-- What an append to a list of bytes leaves: the list that is longer, in its own block or in a new one. -/
structure Bytes (w : World) (B : Nat) (v0 : Value) (w' : World) (v : Value) (l : List UInt8) : Prop where
  own : w'.ownsRow B 5 1 v l.length (bytesV l)
  same : Same (fun k => v0.ownBlock = some k) w w'
  at_ : ∀ k, v.ownBlock = some k → v0.ownBlock = some k ∨ w.heap.size ≤ k

theorem Bytes.start {w : World} {B : Nat} {v : Value} {l : List UInt8} (h : w.ownsRow B 5 1 v l.length (bytesV l)) : Bytes w B v w v l :=
  ⟨h, Same.refl _ _, fun _ hk => Or.inl hk⟩

theorem Bytes.next {w w1 w2 : World} {B : Nat} {v0 v v' : Value} {l l' : List UInt8} (h : Bytes w B v0 w1 v l) (hn : Bytes w1 B v w2 v' l') : Bytes w B v0 w2 v' l' :=
  ⟨hn.own, h.same.trans hn.same (fun k hk hv => (h.at_ k hv).resolve_right (by omega)), fun k hk => by
    rcases hn.at_ k hk with h1 | h1
    · exact h.at_ k h1
    · exact Or.inr (Nat.le_trans h.same.size h1)⟩

theorem Bytes.other {w w1 w2 : World} {B : Nat} {v0 v : Value} {l : List UInt8} (h : Bytes w B v0 w1 v l) (hs : Same (fun _ => False) w1 w2) : Bytes w B v0 w2 v l :=
  ⟨hs.row h.own (fun _ _ => id), h.same.trans hs (fun _ _ h => h.elim), h.at_⟩

theorem Bytes.app {w w' : World} {B g cap : Nat} {v : Value} {l : List UInt8} {b : UInt8} (ho : w'.ownsRow B 5 1 (.slice (some ⟨g, 0, none⟩) (l.length + 1) cap) (l.length + 1) (bytesV l ++ [.int .u8 (b.toNat : Int)]))
    (hg : w.grownBy w' v.ownBlock) (hw : v.ownBlock = some g ∨ w.heap.size ≤ g) : Bytes w B v w' (.slice (some ⟨g, 0, none⟩) (l.length + 1) cap) (l ++ [b]) :=
  ⟨by rw [bytesV_snoc, List.length_append]; exact ho, (Same.refl (fun k => v.ownBlock = some k) w).grown hg (fun k hk _ => hk), fun k hk => by
    simp only [Value.ownBlock, Option.some.injEq] at hk
    subst hk
    exact hw⟩

set_option maxHeartbeats 400000 in
theorem number_any {w : World} {B : Nat} {v : Value} {l : List UInt8} (h : w.ownsRow B 5 1 v l.length (bytesV l)) (hB : B ≤ w.heap.size) (hl : l.length ≤ 1000000) (n : Nat) (_hn : n < 18446744073709551616) :
    Calls Try.prog 18 #[v, .int .u64 n] w fun e w' => ∃ v', e = .returned v' ∧ Bytes w B v w' v' (l ++ be8 n) := by
  have H := Lib.hid (Bytes.start h)
  clear h
  go_enter Try.func18, Try.ntmps18
  go_wp2_with fail
  go_loopg [0, 5] 8 (fun r v1 i wr => ∃ j : Nat, j + r = 8 ∧ i = .int .i64 (7 - (j : Int)) ∧ Bytes w B v wr v1 (l ++ (be8 n).take j))
  case atStart => exact ⟨0, rfl, rfl, by simpa using H.out⟩
  case round =>
    obtain ⟨j, hj, rfl, hb⟩ := hrel
    have HB := Lib.hid hb; clear hb
    by_cases h0 : gk = 0
    · subst h0
      obtain rfl : j = 8 := by omega
      clear hj
      go_wp2_with fail
      go_ret
      exact ⟨_, rfl, by have := HB.out; rwa [show (be8 n).take 8 = be8 n from rfl] at this⟩
    · obtain ⟨r, rfl⟩ : ∃ r, gk = r + 1 := ⟨gk - 1, by omega⟩
      have hj7 : j ≤ 7 := by omega
      have HJ := Lib.hid hj; clear hj h0
      have ho := HB.out.own
      have hsz := HB.out.same.size
      have hlen : (l ++ (be8 n).take j).length ≤ 1000010 := by
        rw [List.length_append, List.length_take]
        omega
      obtain ⟨L, hL⟩ : ∃ L, L = l ++ (be8 n).take j := ⟨_, rfl⟩
      have HBL : Hid (Bytes w B v wr u0 L) := by rw [hL]; exact HB.out
      rw [← hL] at ho hlen
      have HO := Lib.hid ho
      have HL := Lib.hid hL
      clear ho hL
      go_wp2_with (at_builtin; refine wpList_append_elem wr rfl _ _ 23 rfl B 5 (.int .u8 0) 1 1 Try.underlying23 byte_info rfl (by decide) u0 L.length (bytesV L) rfl HO.out [.int .u8 ((n : Int) / 2 ^ (8 * (7 - j)) % 256)] _ rfl rfl ?c1 ?c2 ?c3 ?c4 ?_)
      case c1 => intro u hu; simp at hu; subst hu; rfl
      case c2 => unfold maxLen; omega
      case c3 => omega
      case c4 => omega
      intro g cap w2 hown hgrow hwhere hgl hsl
      rw [byteAt_int] at hown
      have hb2 := HBL.out.next (Bytes.app hown hgrow hwhere)
      rw [HL.out, List.append_assoc, ← be8_take n j (by omega), ← HL.out] at hb2
      have HB2 := Lib.hid hb2
      clear hown hgrow hwhere hb2
      go_wp2_with fail
      go_roundg r
      case measure => omega
      case rel => exact ⟨j + 1, by have := HJ.out; omega, by go_num, HB2.out⟩

end Go.Proofs.Ytmdkfbbagjcboaa
