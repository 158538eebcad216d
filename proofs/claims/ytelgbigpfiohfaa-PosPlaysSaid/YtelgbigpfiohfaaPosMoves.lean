/-
  PosMoves answers true. Conditions: none.
-/
import Derived.Test.YtelgbigpfiohfaaPosKnown
namespace Go.Proofs.Ytelgbigpfiohfaa
open Go.RowKit Go.Extern.Stop Go.Stop Go.Extern Go.Lib Go.Maps
set_option maxRecDepth 1000000

/-- 1, 2, .. -/
def iota (j : Nat) : List Int := (List.range j).map fun (i : Nat) => (i : Int) + 1

theorem iota_length (j : Nat) : (iota j).length = j := by simp [iota]
theorem iota_get {j i : Nat} (h : i < j) : (iota j)[i]? = some ((i : Int) + 1) := by simp [iota, h]
theorem iota_mem {j : Nat} {y : Int} : y ∈ iota j ↔ 1 ≤ y ∧ y ≤ j := by
  simp only [iota, List.mem_map, List.mem_range]
  constructor
  · rintro ⟨i, h, rfl⟩; omega
  · rintro ⟨h1, h2⟩
    exact ⟨(y - 1).toNat, by omega, by omega⟩
theorem iota_succ (j : Nat) : ins (iota j) j ((j : Int) + 1) = iota (j + 1) := by
  rw [ins, List.take_of_length_le (by rw [iota_length]; omega), List.drop_of_length_le (by rw [iota_length]; omega)]
  simp [iota, List.range_succ]
theorem iota_idx {j : Nat} {y : Int} (h : y ∈ iota j) : ((iota j).idxOf y : Int) = y - 1 := by
  have h1 := iota_mem.1 h
  have h2 := idxOf_get h
  have h3 : (iota j).idxOf y < j := by
    have := List.idxOf_lt_length_iff.2 h
    rwa [iota_length] at this
  rw [iota_get h3] at h2
  have := Option.some.inj h2
  omega

theorem i64_small {y : Int} (h0 : -9223372036854775808 ≤ y) (h1 : y ≤ 9223372036854775807) : I64 y :=
  WalkArith.wf_i64 (by omega)

set_option maxHeartbeats 8000000 in
theorem posMoves_any (n id tt : Int) (w : World) (n0 : 0 ≤ n) (n1 : n ≤ 255) (i0 : 0 ≤ id) (i1 : id ≤ 255) (t0 : 0 ≤ tt) (t1 : tt ≤ 255) :
    Calls Try.prog 3 #[.int .u8 n, .int .u8 id, .int .u8 tt] w fun e w' => e = .returned (.bool true) ∧ Same (fun _ => False) w w' := by
  have HK := Lib.hid (known14_any w)
  obtain ⟨k, hk⟩ : ∃ k : Nat, n % 30 + 1 = (k : Int) := ⟨(n % 30).toNat + 1, by omega⟩
  have hk0 : 0 < k := by omega
  have hk31 : k ≤ 30 := by omega
  have hkz : ¬ ((k : Int) = 0) := by omega
  obtain ⟨v, hv⟩ : ∃ v : Nat, id % (k : Int) + 1 = (v : Int) := ⟨(id % (k : Int)).toNat + 1, by have := Int.emod_nonneg id hkz; omega⟩
  obtain ⟨u, hu⟩ : ∃ u : Nat, tt % (k : Int) = (u : Int) := ⟨(tt % (k : Int)).toNat, by have := Int.emod_nonneg tt hkz; omega⟩
  have hvk : 1 ≤ v ∧ v ≤ k := by have h1 := Int.emod_nonneg id hkz; have h2 := Int.emod_lt_of_pos id (show (0 : Int) < k by omega); omega
  have huk : u < k := by have h2 := Int.emod_lt_of_pos tt (show (0 : Int) < k by omega); omega
  have hvt : id.tmod (k : Int) + 1 = (v : Int) := by rw [Int.tmod_eq_emod_of_nonneg i0]; exact hv
  have hut : tt.tmod (k : Int) = (u : Int) := by rw [Int.tmod_eq_emod_of_nonneg t0]; exact hu
  go_enter Try.func3, Try.ntmps3
  go_wp2_with fail
  refine HK.out.mono ?_
  rintro e w1 ⟨rfl, hs1⟩
  have HNEW := Lib.hid (posB_new w1)
  have HS1 := Lib.hid hs1
  clear hs1
  go_wp2_with fail
  refine HNEW.out.mono ?_
  rintro e w2 ⟨x, rfl, h2, hs2⟩
  obtain ⟨B, hB⟩ : ∃ B, B = w1.heap.size := ⟨_, rfl⟩
  rw [← hB] at h2
  have hwB : w.heap.size ≤ B := by rw [hB]; exact HS1.out.size
  have H2 := Lib.hid h2; have HS2 := Lib.hid (HS1.out.trans hs2 (fun _ _ h => h))
  clear h2 hs2 hB
  go_wp2_with fail
  go_loopg [9] k (fun rr vi wr => ∃ (j : Nat), j + rr = k ∧ vi = .int .i64 j ∧ IxB 62 wr B x (iota j) j ∧ Same (fun _ => False) w wr)
  case atStart => exact ⟨0, by omega, rfl, H2.out, HS2.out⟩
  case round =>
    obtain ⟨j, hj, rfl, hx, hs⟩ := hrel
    by_cases hlast : j < k
    · have hl' : (j : Int) < (k : Int) := by omega
      have hjb : (j : Int) < 31 := by omega
      have HI := Lib.hid (posB_insert (i := (j : Int)) (u := j) (y := (j : Int) + 1) hx rfl (by rw [iota_length]; omega) (by rw [iota_length]; omega) (by omega) (fun h => by have := iota_mem.1 h; omega) (i64_small (by omega) (by omega)))
      have HS := Lib.hid hs
      clear hx hs
      go_wp2_with fail
      refine HI.out.mono ?_
      rintro e w3 ⟨rfl, h3, hs3⟩
      rw [iota_succ] at h3
      have H3 := Lib.hid h3; have HS3 := Lib.hid (same_up HS.out hwB hs3)
      clear h3 hs3
      go_wp2_with fail
      go_roundg (gk - 1)
      case measure => omega
      case rel => exact ⟨j + 1, by omega, by go_num, H3.out, HS3.out⟩
    · have hl' : ¬ (j : Int) < (k : Int) := by omega
      have hjk : j = k := by omega
      subst hjk
      have HX := Lib.hid hx; have HS := Lib.hid hs
      clear hx hs
      go_wp2_with fail
      have hvm : (v : Int) ∈ iota j := iota_mem.2 (by omega)
      have hnd := HX.out.ok.1
      have hvp := iota_idx hvm
      have hw1 : IntKind.i64.wrap ((v : Int) - 1) = (v : Int) - 1 := by rw [IntKind.wrap_i64]; omega
      have hvb : (v : Int) < 32 := by omega
      have hub : (u : Int) < 32 := by omega
      have hidx : (movedTo (iota j) v u).idxOf (v : Int) = u := moved_idx hnd hvm (by rw [iota_length]; exact huk)
      have hmem : (v : Int) ∈ movedTo (iota j) v u := (moved_mem u hnd hvm v).2 hvm
      have hlen : (movedTo (iota j) v u).length = j := by rw [moved_length u hvm, iota_length]
      have hback : movedTo (movedTo (iota j) v u) v (v - 1) = iota j := by
        have h1 := moved_back hnd hvm (u := u) (by rw [iota_length]; exact huk)
        rwa [show (iota j).idxOf (v : Int) = v - 1 by omega] at h1
      have HM1 := Lib.hid (fun (w' : World) (hs' : Same (fun _ => False) wr w') => posB_move (i := (u : Int)) (u := u) (y := (v : Int)) (p := (v : Int) - 1) (HX.out.keep hs') rfl (by rw [iota_length]; exact huk) (by rw [iota_length]; omega) (by omega) hvm hvp.symm)
      have HPL := Lib.hid (fun (w' : World) (h : IxB 62 w' B x (movedTo (iota j) v u) (j + 1)) => posB_place (y := (v : Int)) (p := (u : Int)) h (by rw [hlen]; omega) hmem (by rw [hidx]))
      have HM2 := Lib.hid (fun (w' : World) (h : IxB 62 w' B x (movedTo (iota j) v u) (j + 1)) => posB_move (i := (v : Int) - 1) (u := v - 1) (y := (v : Int)) (p := (u : Int)) h (by omega) (by rw [hlen]; omega) (by rw [hlen]; omega) (by omega) hmem (by rw [hidx]))
      have HBK := Lib.hid hback
      clear hvm hnd hvp hidx hmem hlen hback
      go_quiet (fail)
      go_wp2_with fail
      refine (HM1.out _ ((Same.refl _ wr).drewN _)).mono ?_
      rintro e w4 ⟨rfl, h4, hs4⟩
      have HP4 := Lib.hid (HPL.out w4 h4); have H4 := Lib.hid h4; have HS4 := Lib.hid (same_up (HS.out.drewN _) hwB hs4)
      clear h4 hs4
      go_wp2_with fail
      refine HP4.out.mono ?_
      rintro e w5 ⟨rfl, hs5⟩
      have HM5 := Lib.hid (HM2.out w5 (H4.out.keep hs5)); have HS5 := Lib.hid (HS4.out.trans hs5 (fun _ _ h => h))
      clear hs5
      go_wp2_with fail
      refine HM5.out.mono ?_
      rintro e w6 ⟨rfl, h6, hs6⟩
      rw [HBK.out] at h6
      have H6 := Lib.hid h6; have HS6 := Lib.hid (same_up HS5.out hwB hs6)
      clear h6 hs6
      go_wp2_with fail
      go_loopg [16] j (fun rr vi wr => ∃ (i : Nat), i + rr = j ∧ vi = .int .i64 i ∧ w6 = wr)
      case atStart => exact ⟨0, by omega, rfl, rfl⟩
      case round =>
        obtain ⟨i, hij, rfl, rfl⟩ := hrel
        by_cases hi : i < j
        · have hl' : (i : Int) < (j : Int) := by omega
          have hib : (i : Int) < 31 := by omega
          have HA := Lib.hid (posB_at (i := (i : Int)) (u := i) (y := (i : Int) + 1) H6.out (by rw [iota_length]; omega) rfl (iota_get hi))
          go_wp2_with fail
          refine HA.out.mono ?_
          rintro e w7 ⟨rfl, rfl⟩
          go_wp2_with fail
          go_roundg (gk - 1)
          case measure => omega
          case rel => exact ⟨i + 1, by omega, by go_num, rfl⟩
        · have hl' : ¬ (i : Int) < (j : Int) := by omega
          go_wp2_with fail
          go_ret
          exact ⟨rfl, HS6.out⟩

end Go.Proofs.Ytelgbigpfiohfaa
