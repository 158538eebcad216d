/-
  rialtoref7.lower: small letters. Condition: a text of at most 1000 bytes.
-/
import Derived.Test.YtcbapmkipcffgaaDoorExt
import Derived.Laws.IdiomStrings
import Derived.Deep.QuietTactic
import Derived.BigQuiet
namespace Go.Proofs.YtcbapmkipcffgaaDoor
open Go.RowKit Go.Lib
set_option maxRecDepth 1000000

def lowB (b : UInt8) : UInt8 := if 65 ≤ b.toNat ∧ b.toNat ≤ 90 then UInt8.ofNat (b.toNat + 32) else b
def lowerS (s : ByteArray) : ByteArray := ⟨(s.data.toList.map lowB).toArray⟩

theorem lowerS_size (s : ByteArray) : (lowerS s).size = s.size := by
  show (s.data.toList.map lowB).toArray.size = s.data.size
  rw [List.size_toArray, List.length_map, Array.length_toList]

/-- The row of bytes, lowered up to k. -/
def LowAt (w0 : World) (s : ByteArray) (k : Nat) (wr : World) : Prop :=
  Same (fun _ => False) w0 wr ∧ ∃ (cur : Array Value) (m : Nat), wr.heap[w0.heap.size]? = some (.cells cur 5 (cur.size, m)) ∧ s.size ≤ cur.size ∧
    ∀ j, j < s.size → cur[j]? = some (.int .u8 ((if j < k then lowB (s.data.toList.getD j 0) else s.data.toList.getD j 0).toNat : Int))

theorem LowAt.cell {w0 wr : World} {s : ByteArray} {k j : Nat} (h : LowAt w0 s k wr) (hj : j < s.size) : wr.cell? ⟨w0.heap.size, j, none⟩ = some (.int .u8 ((if j < k then lowB (s.data.toList.getD j 0) else s.data.toList.getD j 0).toNat : Int)) := by
  obtain ⟨_, cur, m, h1, _, h3⟩ := h
  simp only [World.cell?, h1]
  simpa using h3 j hj

theorem LowAt.free {w0 wr : World} {s : ByteArray} {k j : Nat} (h : LowAt w0 s k wr) (hj : j < s.size) : wr.frozen? ⟨w0.heap.size, j, none⟩ = false := by
  obtain ⟨_, cur, m, h1, h2, _⟩ := h
  simp only [World.frozen?, h1]
  simp
  omega

theorem LowAt.skip {w0 wr : World} {s : ByteArray} {k : Nat} (h : LowAt w0 s k wr) (hl : lowB (s.data.toList.getD k 0) = s.data.toList.getD k 0) : LowAt w0 s (k + 1) wr := by
  obtain ⟨h0, cur, m, h1, h2, h3⟩ := h
  refine ⟨h0, cur, m, h1, h2, fun j hj => ?_⟩
  rw [h3 j hj]
  by_cases e : j = k
  · subst e
    rw [if_neg (by omega), if_pos (by omega), hl]
  · by_cases hjk : j < k
    · rw [if_pos hjk, if_pos (by omega)]
    · rw [if_neg hjk, if_neg (by omega)]

theorem LowAt.set {w0 wr : World} {s : ByteArray} {k : Nat} (h : LowAt w0 s k wr) (hk : k < s.size) (n : Int) (hn : n = ((lowB (s.data.toList.getD k 0)).toNat : Int)) : LowAt w0 s (k + 1) (wr.setCell ⟨w0.heap.size, k, none⟩ (.int .u8 n)) := by
  obtain ⟨h0, cur, m, h1, h2, h3⟩ := h
  refine ⟨h0.setCell (p := ⟨w0.heap.size, k, none⟩) (fun (h : w0.heap.size < w0.heap.size) => by omega) _, cur.setIfInBounds k (.int .u8 n), m, ?_, by simpa using h2, fun j hj => ?_⟩
  · rw [Array.size_setIfInBounds]
    exact vset_at h1
  · by_cases e : j = k
    · subst e
      rw [Array.getElem?_setIfInBounds_self_of_lt (by omega), if_pos (by omega), hn]
    · rw [Array.getElem?_setIfInBounds_ne (fun h => e h.symm), h3 j hj]
      by_cases hjk : j < k
      · rw [if_pos hjk, if_pos (by omega)]
      · rw [if_neg hjk, if_neg (by omega)]

theorem byte_le (b : UInt8) : b.toNat ≤ 255 := by have := b.toNat_lt; omega

set_option maxHeartbeats 4000000 in
theorem lower_any (s : ByteArray) (hs : s.size ≤ 1000) (w : World) :
    Calls Tryd.prog 71 #[.string s] w fun e w' => e = .returned (.string (lowerS s)) ∧ Same (fun _ => False) w w' := by
  have hconv := fun w => run_bytes_of_string (P := Tryd.prog) w 9 86 5 s Tryd.underlying9 Tryd.underlying86 Tryd.underlying5
  have hL0 : ∀ cap, LowAt w s 0 (w.drew.alloc (.cells (bytesRow s cap) 5 ((bytesRow s cap).size, (bytesRow s cap).size + 1))) := fun cap => by
    refine ⟨(Same.refl _ w).drew.alloc _, bytesRow s cap, (bytesRow s cap).size + 1, heap_alloc_new w.drew _, ?_, fun j hj => ?_⟩
    · show s.data.size ≤ (bytesRow s cap).size
      unfold bytesRow
      rw [Array.size_append, Array.size_map]
      exact Nat.le_add_right _ _
    · rw [bytesRow_at s cap j hj, if_neg (by omega)]
      have e : s.data.toList.getD j 0 = s.data[j] := by
        rw [List.getD_eq_getElem?_getD, Array.getElem?_toList, Array.getElem?_eq_getElem hj]
        rfl
      rw [e]
  have HL0 := Lib.hid hL0
  clear hL0
  go_enter Tryd.func71, Tryd.ntmps71
  go_wp2_with fail
  generalize grownCap w s.size 0 5 = cap at *
  have HL1 := Lib.hid (show LowAt w s 0 (w.alloc (.cells (bytesRow s cap) 5 ((bytesRow s cap).size, (bytesRow s cap).size + 1))).drew from HL0.out cap)
  clear hconv HL0
  generalize hw1 : (w.alloc (.cells (bytesRow s cap) 5 ((bytesRow s cap).size, (bytesRow s cap).size + 1))).drew = w1 at *
  clear hw1
  go_loopg [4] s.size (fun r i wr => ∃ k : Nat, k + r = s.size ∧ i = .int .i64 k ∧ LowAt w s k wr)
  case atStart => exact ⟨0, by omega, rfl, HL1.out⟩
  case round =>
    obtain ⟨k, hk, rfl, hL⟩ := hrel
    have HL := Lib.hid hL
    clear hL HL1
    by_cases hlt : k < s.size
    · obtain ⟨r, rfl⟩ : ∃ r, gk = r + 1 := ⟨gk - 1, by omega⟩
      have HK := Lib.hid hk
      have c0 := HL.out.cell hlt
      rw [if_neg (Nat.lt_irrefl k)] at c0
      have f0 := HL.out.free hlt
      have hb255 := byte_le (s.data.toList.getD k 0)
      obtain ⟨x, hx⟩ : ∃ x, x = s.data.toList.getD k 0 := ⟨_, rfl⟩
      rw [← hx] at c0 hb255
      have HX := Lib.hid hx
      have HLT := Lib.hid hlt
      have hkc : k < s.size := hlt
      clear hx hk
      by_cases h65 : 65 ≤ x.toNat
      · have g65 : (65 : Int) ≤ (x.toNat : Int) := by omega
        by_cases h90 : x.toNat ≤ 90
        · have g90 : (x.toNat : Int) ≤ 90 := by omega
          have hw : IntKind.u8.wrap ((x.toNat : Int) + 32) = (x.toNat : Int) + 32 := by
            have : IntKind.u8.wrap ((x.toNat : Int) + 32) = ((x.toNat : Int) + 32) % 256 := rfl
            rw [this]; omega
          have hset := HL.out.set HLT.out ((x.toNat : Int) + 32) (by
            rw [← HX.out]
            unfold lowB
            rw [if_pos ⟨h65, h90⟩, UInt8.toNat_ofNat']
            omega)
          have HSET := Lib.hid hset
          clear hset h65 h90 hb255
          go_wp2_with fail
          go_roundg r
          case measure => omega
          case rel => exact ⟨k + 1, by have := HK.out; omega, by go_num, HSET.out⟩
        · have g90 : ¬ (x.toNat : Int) ≤ 90 := by omega
          have hsk := HL.out.skip (by rw [← HX.out]; unfold lowB; rw [if_neg (fun h => h90 h.2)])
          have HSK := Lib.hid hsk
          clear hsk h65 h90 hb255
          go_wp2_with fail
          go_roundg r
          case measure => omega
          case rel => exact ⟨k + 1, by have := HK.out; omega, by go_num, HSK.out⟩
      · have g65 : ¬ (65 : Int) ≤ (x.toNat : Int) := by omega
        have hsk := HL.out.skip (by rw [← HX.out]; unfold lowB; rw [if_neg (fun h => h65 h.1)])
        have HSK := Lib.hid hsk
        clear hsk h65 hb255
        go_wp2_with fail
        go_roundg r
        case measure => omega
        case rel => exact ⟨k + 1, by have := HK.out; omega, by go_num, HSK.out⟩
    · obtain rfl : k = s.size := by omega
      have hback := run_convert_bytes_back (P := Tryd.prog) wr 86 9 5 ⟨w.heap.size, 0, none⟩ cap (s.data.toList.map lowB) Tryd.underlying86 Tryd.underlying5 Tryd.underlying9 (fun j hj => by
        have hj' : j < s.size := by
          rw [List.length_map, Array.length_toList] at hj
          exact hj
        rw [Addr.add_lit, Nat.zero_add, HL.out.cell hj', if_pos hj', List.getElem_map]
        congr 3
        rw [List.getD_eq_getElem?_getD, List.getElem?_eq_getElem (by rw [Array.length_toList]; exact hj')]
        rfl)
      rw [show (s.data.toList.map lowB).length = s.size by rw [List.length_map, Array.length_toList]; rfl] at hback
      have HS := Lib.hid HL.out.1
      clear hk hlt
      go_wp2_with fail
      go_ret
      exact ⟨rfl, HS.out⟩

end Go.Proofs.YtcbapmkipcffgaaDoor
