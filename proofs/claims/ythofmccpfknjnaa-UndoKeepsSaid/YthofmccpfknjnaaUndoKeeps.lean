/-
  The statement UndoKeeps: what is kept is never called back; what comes behind is. The walk. Conditions: none.
-/
import Derived.Test.YthofmccpfknjnaaUndoD
namespace Go.Proofs.Ythofmccpfknjnaa
open Go.RowKit

theorem keeps1_any {w : World} {b : Nat} (n : Int) (hn : 0 ≤ n) (hn2 : n ≤ 1000) (h : One w b (.int .i64 n) 3) :
    Calls Try.prog 15 #[.pointer (some ⟨b, 0, none⟩)] w fun e w' => e = .returned (.tuple #[]) ∧ w' = w.setCell ⟨b, 0, none⟩ (.int .i64 (n + 1)) := by
  have c0 := cell_of_one h
  have f0 := free_of_one h
  clear h
  go_enter Try.func15, Try.ntmps15
  go_wp2
  go_end0
  exact ⟨rfl, rfl⟩

theorem keeps2_any {w : World} {b : Nat} (n : Int) (hn : 0 ≤ n) (hn2 : n ≤ 1000) (h : One w b (.int .i64 n) 3) :
    Calls Try.prog 16 #[.pointer (some ⟨b, 0, none⟩)] w fun e w' => e = .returned (.tuple #[]) ∧ w' = w.setCell ⟨b, 0, none⟩ (.int .i64 (n + 1)) := by
  have c0 := cell_of_one h
  have f0 := free_of_one h
  clear h
  go_enter Try.func16, Try.ntmps16
  go_wp2
  go_end0
  exact ⟨rfl, rfl⟩

theorem keeps1_calls (cap : Array Value) (w : World) : (callFunc 15 cap).run Try.prog w = .ok (.enter 15 cap) w := by kernel_rfl
theorem keeps2_calls (cap : Array Value) (w : World) : (callFunc 16 cap).run Try.prog w = .ok (.enter 16 cap) w := by kernel_rfl

/-- The steps count; k: how many calls and steps there are together. -/
def KeepsJ (w0 : World) (B b k : Nat) (gs : List Value) (w : World) : Prop :=
  Below B w0 w ∧ (∀ f ∈ gs, f = knownF 15 b ∨ f = knownF 16 b) ∧ One w b (.int .i64 ((k - gs.length : Nat) : Int)) 3 ∧ gs.length ≤ k ∧ k ≤ 100

theorem keeps_step {w0 : World} {B p b k : Nat} (hb : b ≠ p) (hBb : B ≤ b) (gs : List Value) (f : Value) (w : World) (hJ : KeepsJ w0 B b k (gs ++ [f]) w) (hl : LogAt w B p gs) :
    StepOf B p (KeepsJ w0 B b k) gs f w := by
  obtain ⟨hbel, hall, hone, hle, hk⟩ := hJ
  simp only [List.length_append, List.length_cons, List.length_nil, Nat.zero_add] at hone hle
  have hnext : ((k - (gs.length + 1) : Nat) : Int) + 1 = ((k - gs.length : Nat) : Int) := by omega
  have hall' : ∀ g ∈ gs, g = knownF 15 b ∨ g = knownF 16 b := fun g hg => hall g (by simp [hg])
  rcases hall f (by simp) with rfl | rfl
  · refine ⟨_, _, rfl, keeps1_calls _, (keeps1_any _ (by omega) (by omega) hone).mono ?_⟩
    rintro e w' ⟨rfl, rfl⟩
    rw [hnext]
    exact ⟨rfl, ⟨hbel.setCell hBb _, hall', hone.setCell _, by omega, hk⟩, hl.setCell hone hb (fun cur e => by cases e) _⟩
  · refine ⟨_, _, rfl, keeps2_calls _, (keeps2_any _ (by omega) (by omega) hone).mono ?_⟩
    rintro e w' ⟨rfl, rfl⟩
    rw [hnext]
    exact ⟨rfl, ⟨hbel.setCell hBb _, hall', hone.setCell _, by omega, hk⟩, hl.setCell hone hb (fun cur e => by cases e) _⟩

set_option maxHeartbeats 1000000 in
theorem undoKeeps_any (a b mk : Int) (w : World) (ha : 0 ≤ a) (ha2 : a ≤ 255) (hb : 0 ≤ b) (hb2 : b ≤ 255) (hm : 0 ≤ mk) (hm2 : mk ≤ 255) :
    Calls Try.prog 4 #[.int .u8 a, .int .u8 b, .int .u8 mk] w fun e w' => e = .returned (.bool true) ∧ Below w.heap.size w w' := by
  go_enter Try.func4, Try.ntmps4
  go_wp2_with fail
  refine (known_any w).mono ?_
  rintro e w1 ⟨rfl, hb1⟩
  have hs1 := hb1.size
  have HB1 := Lib.hid hb1; clear hb1
  go_wp2_with fail
  refine (new_any w1).mono ?_
  rintro e w2 ⟨rfl, rfl⟩
  go_wp2_with fail
  have hx0 : 0 ≤ a % 12 ∧ a % 12 ≤ 11 := by omega
  have hy0 : 0 ≤ b % 12 ∧ b % 12 ≤ 11 := by omega
  generalize a % 12 = xi at *
  generalize b % 12 = yi at *
  obtain ⟨hx1, hx2⟩ := hx0
  obtain ⟨hy1, hy2⟩ := hy0
  obtain ⟨x, rfl⟩ := Int.eq_ofNat_of_zero_le hx1
  obtain ⟨y, rfl⟩ := Int.eq_ofNat_of_zero_le hy1
  have hl0 : LogAt ((w1.alloc (.cells #[.slice none 0 0] 43)).alloc (.cells #[.int .i64 0] 3)) w.heap.size w1.heap.size [] := (log_new w1 hs1).alloc _
  have ho0 : One ((w1.alloc (.cells #[.slice none 0 0] 43)).alloc (.cells #[.int .i64 0] 3)) (w1.heap.size + 1) (.int .i64 0) 3 := by
    simpa using One.new (w1.alloc (.cells #[.slice none 0 0] 43)) (.int .i64 0) 3
  have hb0 : Below w.heap.size w ((w1.alloc (.cells #[.slice none 0 0] 43)).alloc (.cells #[.int .i64 0] 3)) := (HB1.out.alloc hs1 _).alloc (by simp; omega) _
  have HL0 := Lib.hid hl0; have HO0 := Lib.hid ho0; have HB0 := Lib.hid hb0
  clear hl0 ho0 hb0
  go_loopw [11] (fun i wr => ∃ k : Nat, k ≤ x ∧ i = .int .i64 k ∧ LogAt wr w.heap.size w1.heap.size (List.replicate k (knownF 15 (w1.heap.size + 1))) ∧ One wr (w1.heap.size + 1) (.int .i64 0) 3 ∧ Below w.heap.size w wr)
    (fun i _ => x - (intOf i).toNat)
  case atStart => exact ⟨0, Nat.zero_le _, rfl, HL0.out, HO0.out, HB0.out⟩
  case round =>
    obtain ⟨k, hk, rfl, hl, ho, hbe⟩ := hrel
    have hsr := hbe.size
    have HL := Lib.hid hl; have HO := Lib.hid ho; have HB := Lib.hid hbe
    clear hl ho hbe
    by_cases hkx : k < x
    · go_wp2_with fail
      refine (add_any HL.out hsr (by simp; omega) _ _).mono ?_
      rintro e w3 ⟨rfl, hl3, hk3⟩
      have ho3 := HO.out.kept hk3 (by omega) (by decide)
      have hb3 := HB.out.trans hk3.below
      have hl3' : LogAt w3 w.heap.size w1.heap.size (List.replicate (k + 1) (knownF 15 (w1.heap.size + 1))) := by
        rw [List.replicate_succ']; exact hl3
      have HL3 := Lib.hid hl3'; have HO3 := Lib.hid ho3; have HB3 := Lib.hid hb3
      clear hl3 hk3 ho3 hb3 hl3'
      go_wp2_with fail
      go_roundw
      case rel => exact ⟨k + 1, by omega, by go_num, HL3.out, HO3.out, HB3.out⟩
      case measure => simp [intOf]; omega
    · obtain rfl : k = x := by omega
      clear hkx hk
      have hm0 : 0 ≤ mk % ((k : Int) + 1) ∧ mk % ((k : Int) + 1) ≤ k := ⟨Int.emod_nonneg _ (by omega), by have := Int.emod_lt_of_pos mk (show (0 : Int) < (k : Int) + 1 by omega); omega⟩
      have c0 := cell_of_one HO.out
      go_wp2_with fail
      generalize mk % ((k : Int) + 1) = mi at *
      obtain ⟨hm1, hm3⟩ := hm0
      obtain ⟨m, rfl⟩ := Int.eq_ofNat_of_zero_le hm1
      refine (keep_yes HL.out m (by simp; omega) (by simp; omega)).mono ?_
      rintro e w3 ⟨rfl, hl3, hk3⟩
      have ho3 := HO.out.kept hk3 (by omega) (by decide)
      have hb3 := HB.out.trans hk3.below
      have hl3' : LogAt w3 w.heap.size w1.heap.size (List.replicate m (knownF 15 (w1.heap.size + 1))) := by
        rw [List.take_replicate, Nat.min_eq_left (by omega)] at hl3; exact hl3
      have c3 := cell_of_one ho3
      have HL3 := Lib.hid hl3'; have HO3 := Lib.hid ho3; have HB3 := Lib.hid hb3
      clear hl3 hk3 ho3 hb3 hl3' c0
      go_wp2_with fail
      refine (len_any HL3.out).mono ?_
      rintro e w3' ⟨rfl, rfl⟩
      have hlen : (List.replicate m (knownF 15 (w1.heap.size + 1))).length = m := by simp
      rw [hlen]; clear hlen
      go_wp2_with fail
      go_loopw [13] (fun i wr => ∃ j : Nat, j ≤ y ∧ i = .int .i64 j ∧ LogAt wr w.heap.size w1.heap.size (List.replicate m (knownF 15 (w1.heap.size + 1)) ++ List.replicate j (knownF 16 (w1.heap.size + 1))) ∧ One wr (w1.heap.size + 1) (.int .i64 0) 3 ∧ Below w.heap.size w wr)
        (fun i _ => y - (intOf i).toNat)
      case atStart => exact ⟨0, Nat.zero_le _, rfl, by simpa using HL3.out, HO3.out, HB3.out⟩
      case round =>
        obtain ⟨j, hj, rfl, hl, ho, hbe⟩ := hrel
        have hsr := hbe.size
        have HL := Lib.hid hl; have HO := Lib.hid ho; have HB := Lib.hid hbe
        clear hl ho hbe
        by_cases hjy : j < y
        · go_wp2_with fail
          refine (add_any HL.out hsr (by simp; omega) _ _).mono ?_
          rintro e w4 ⟨rfl, hl4, hk4⟩
          have ho4 := HO.out.kept hk4 (by omega) (by decide)
          have hb4 := HB.out.trans hk4.below
          have hl4' : LogAt w4 w.heap.size w1.heap.size (List.replicate m (knownF 15 (w1.heap.size + 1)) ++ List.replicate (j + 1) (knownF 16 (w1.heap.size + 1))) := by
            rw [List.replicate_succ', ← List.append_assoc]; exact hl4
          have HL4 := Lib.hid hl4'; have HO4 := Lib.hid ho4; have HB4 := Lib.hid hb4
          clear hl4 hk4 ho4 hb4 hl4'
          go_wp2_with fail
          go_roundw
          case rel => exact ⟨j + 1, by omega, by go_num, HL4.out, HO4.out, HB4.out⟩
          case measure => simp [intOf]; omega
        · obtain rfl : j = y := by omega
          clear hjy hj c3
          have stab : ∀ gs w3 w4, KeepsJ w w.heap.size (w1.heap.size + 1) (m + j) gs w3 → LogKept w.heap.size w1.heap.size w3 w4 → KeepsJ w w.heap.size (w1.heap.size + 1) (m + j) gs w4 := by
            rintro gs w3 w4 ⟨q1, q2, q3, q4⟩ hk
            exact ⟨q1.trans hk.below, q2, q3.kept hk (by omega) (by decide), q4⟩
          have hst := fun (gs : List Value) (f : Value) (w3 : World) hJ hl => keeps_step (w0 := w) (B := w.heap.size) (p := w1.heap.size) (b := w1.heap.size + 1) (k := m + j) (by omega) (by omega) gs f w3 hJ hl
          have HST := Lib.hid hst; have HSTAB := Lib.hid stab
          clear hst stab
          have hlen : (List.replicate m (knownF 15 (w1.heap.size + 1)) ++ List.replicate j (knownF 16 (w1.heap.size + 1))).length = m + j := by simp
          have HLEN := Lib.hid hlen; clear hlen
          go_wp2_with fail
          refine (back_yes (KeepsJ w w.heap.size (w1.heap.size + 1) (m + j)) m _ (fun gs f w3 _ _ hJ hl => HST.out gs f w3 hJ hl) HSTAB.out wr ?_ HL.out (by rw [HLEN.out]; omega) (by rw [HLEN.out]; omega)).mono ?_
          · refine ⟨HB.out, fun f hf => ?_, ?_, by rw [HLEN.out]; omega, by omega⟩
            · rcases List.mem_append.1 hf with hf | hf
              · exact Or.inl (List.mem_replicate.1 hf).2
              · exact Or.inr (List.mem_replicate.1 hf).2
            · rw [HLEN.out, Nat.sub_self]; exact HO.out
          rintro e w5 ⟨rfl, hJ5, hl5⟩
          have htk : (List.replicate m (knownF 15 (w1.heap.size + 1)) ++ List.replicate j (knownF 16 (w1.heap.size + 1))).take m = List.replicate m (knownF 15 (w1.heap.size + 1)) := by
            rw [List.take_append_of_le_length (by simp), List.take_of_length_le (by simp)]
          rw [htk] at hJ5 hl5
          clear htk
          have ho5 := hJ5.2.2.1
          rw [List.length_replicate, Nat.add_sub_cancel_left] at ho5
          have c5 := cell_of_one ho5
          have HL5 := Lib.hid hl5; have HJ5 := Lib.hid hJ5
          clear hl5 hJ5 ho5
          go_wp2_with fail
          refine (back_yes (KeepsJ w w.heap.size (w1.heap.size + 1) (m + j)) 0 _ (fun gs f w3 _ _ hJ hl => HST.out gs f w3 hJ hl) HSTAB.out w5 HJ5.out HL5.out (by omega) (by simp; omega)).mono ?_
          rintro e w6 ⟨rfl, hJ6, hl6⟩
          rw [List.take_zero] at hJ6 hl6
          have ho6 := hJ6.2.2.1
          rw [List.length_nil, Nat.sub_zero] at ho6
          have c6 := cell_of_one ho6
          have hb6 := hJ6.1
          have HL6 := Lib.hid hl6; have HB6 := Lib.hid hb6
          have hsum : ((m + j : Nat) : Int) = (j : Int) + m := by omega
          rw [hsum] at c6
          clear hl6 hJ6 ho6 hb6 c5 hsum
          go_wp2_with fail
          refine (keep_no HL6.out 1 (by simp)).mono ?_
          rintro e w7 ⟨rfl, rfl⟩
          go_wp2_with fail
          refine (back_no HL6.out (-1) (by simp)).mono ?_
          rintro e w7 ⟨rfl, rfl⟩
          go_wp2_with fail
          refine (len_any HL6.out).mono ?_
          rintro e w7 ⟨rfl, rfl⟩
          go_wp2_with fail
          go_ret
          exact ⟨rfl, HB6.out⟩

end Go.Proofs.Ythofmccpfknjnaa
