/-
  PosSwaps answers true. Conditions: none.
-/
import Derived.Test.YtelgbigpfiohfaaPosOpen
namespace Go.Proofs.Ytelgbigpfiohfaa
open Go.RowKit Go.Extern.Stop Go.Stop Go.Extern Go.Lib Go.Maps
set_option maxRecDepth 1000000

theorem swapped_twice {L : List Int} {i k : Nat} (hi : i < L.length) (hk : k < L.length) : swapped (swapped L i k) i k = L := by
  apply List.ext_getElem?
  intro j
  have hl := swapped_length L i k
  have g1 : (swapped L i k).getD i 0 = L.getD k 0 := by
    unfold swapped
    rw [List.getD_eq_getElem?_getD, List.getElem?_set]
    by_cases e : k = i
    · subst e; simp [hk]
    · simp [e, hi]
  have g2 : (swapped L i k).getD k 0 = L.getD i 0 := by
    unfold swapped
    rw [List.getD_eq_getElem?_getD, List.getElem?_set]
    simp [hk]
  show (((swapped L i k).set i ((swapped L i k).getD k 0)).set k ((swapped L i k).getD i 0))[j]? = L[j]?
  rw [g1, g2]
  by_cases e1 : j = k
  · subst e1
    rw [List.getElem?_set_self (by rw [List.length_set]; omega)]
    simp [List.getD_eq_getElem?_getD, hk]
  · rw [List.getElem?_set_ne (by omega)]
    by_cases e2 : j = i
    · subst e2
      rw [List.getElem?_set_self (by omega)]
      simp [List.getD_eq_getElem?_getD, hi]
    · rw [List.getElem?_set_ne (by omega)]
      unfold swapped
      rw [List.getElem?_set_ne (by omega), List.getElem?_set_ne (by omega)]

/-- The order behind j swaps. -/
def st (k : Nat) (bs : List Int) : Nat → List Int
  | 0 => iota k
  | j + 1 => swapped (st k bs j) ((bs.getD j 0).toNat % k) ((bs.getD j 0).toNat / 16 % k)

theorem st_length (k : Nat) (bs : List Int) : ∀ j, (st k bs j).length = k
  | 0 => iota_length k
  | j + 1 => by rw [st, swapped_length, st_length k bs j]

theorem st_back {k : Nat} (hk : 0 < k) (bs : List Int) (j : Nat) : swapped (st k bs (j + 1)) ((bs.getD j 0).toNat % k) ((bs.getD j 0).toNat / 16 % k) = st k bs j :=
  swapped_twice (by rw [st_length]; exact Nat.mod_lt _ hk) (by rw [st_length]; exact Nat.mod_lt _ hk)

theorem posB_swap {w : World} {B x k : Nat} {L : List Int} {i j : Int} {u v : Nat} (h : IxB 62 w B x L k) (hi : i = u) (hj : j = v) (hu : u < L.length) (hv : v < L.length) (hL : L.length ≤ 80000) (hk : k ≤ 100000) :
    Calls Try.prog 20 #[.pointer (some ⟨x, 0, none⟩), .int .i64 i, .int .i64 j] w fun e w' => e = .returned (.int .i64 0) ∧ IxB 62 w' B x (swapped L u v) (k + 1) ∧ Same (fun q => B ≤ q) w w' := by
  have hB := h.base
  obtain ⟨c, N, hx, h0, h1, h2⟩ := h
  subst hi hj
  refine (pos_swap hx (fun q hq => by show B ≤ q; omega) hL ⟨h0, by omega⟩ hu hv).mono ?_
  rintro e w' ⟨rfl, hg⟩
  exact ⟨rfl, ixb_got h0 h1 h2 (most_small hL) hg⟩

/-- What a byte says: which two change places. -/
theorem byte_parts {b : Int} {k : Nat} (hk : 0 < k) (h0 : 0 ≤ b) : ∃ i j : Nat, b.toNat % k = i ∧ b.toNat / 16 % k = j ∧ i < k ∧ j < k ∧ b.tmod (k : Int) = (i : Int) ∧ b % (k : Int) = (i : Int) ∧ (b.tdiv 16).tmod (k : Int) = (j : Int) ∧ (b / 16).tmod (k : Int) = (j : Int) ∧ b / 16 % (k : Int) = (j : Int) := by
  obtain ⟨n, rfl⟩ : ∃ n : Nat, b = n := ⟨b.toNat, by omega⟩
  refine ⟨n % k, n / 16 % k, by simp, by simp, Nat.mod_lt _ hk, Nat.mod_lt _ hk, rfl, rfl, rfl, ?_, ?_⟩
  · have : (n : Int) / 16 = ((n / 16 : Nat) : Int) := rfl
    rw [this]; rfl
  · have : (n : Int) / 16 = ((n / 16 : Nat) : Int) := rfl
    rw [this]; rfl

theorem wrap_sixteenth {b : Int} (h0 : 0 ≤ b) (h1 : b ≤ 255) : IntKind.u8.wrap (b.tdiv 16) = b.tdiv 16 ∧ IntKind.i64.wrap (b.tdiv 16) = b.tdiv 16 ∧ IntKind.i64.wrap b = b := by
  have e : b.tdiv 16 = b / 16 := Int.tdiv_eq_ediv_of_nonneg h0
  rw [e]
  refine ⟨?_, ?_, ?_⟩
  · simp [IntKind.wrap, IntKind.bits, IntKind.signed]
    omega
  · rw [IntKind.wrap_i64]
    omega
  · rw [IntKind.wrap_i64]
    omega

set_option maxHeartbeats 16000000 in
theorem posSwaps_any {n : Int} {v : Value} {bs : List Int} (w : World) (n0 : 0 ≤ n) (n1 : n ≤ 255) (hv : ReadU w v bs) (hbs : ∀ b ∈ bs, 0 ≤ b ∧ b ≤ 255) :
    Calls Try.prog 5 #[.int .u8 n, v] w fun e w' => e = .returned (.bool true) ∧ Same (fun _ => False) w w' := by
  have HK := Lib.hid (known14_any w)
  have hcap : ∃ ao cap, v = .slice ao bs.length cap := by
    obtain ⟨ao, cap, rfl, _⟩ := hv
    exact ⟨ao, cap, rfl⟩
  obtain ⟨ao, cap, rfl⟩ := hcap
  obtain ⟨k, hk⟩ : ∃ k : Nat, n % 20 + 1 = (k : Int) := ⟨(n % 20).toNat + 1, by omega⟩
  have hk0 : 0 < k := by omega
  have hk31 : k ≤ 20 := by omega
  have hkz : ¬ ((k : Int) = 0) := by omega
  have HV := Lib.hid hv; have HBS := Lib.hid hbs
  clear hv hbs
  by_cases h40 : (bs.length : Int) > 40
  · go_enter Try.func5, Try.ntmps5
    go_wp2_with fail
    refine HK.out.mono ?_
    rintro e w1 ⟨rfl, hs1⟩
    have HS1 := Lib.hid hs1
    clear hs1
    go_wp2_with fail
    go_ret
    exact ⟨rfl, HS1.out⟩
  · have h40' : bs.length ≤ 40 := by omega
    go_enter Try.func5, Try.ntmps5
    go_wp2_with fail
    refine HK.out.mono ?_
    rintro e w1 ⟨rfl, hs1⟩
    have HNEW := Lib.hid (posB_new w1)
    have HS1 := Lib.hid hs1
    clear hs1
    go_wp2_with fail
    refine HNEW.out.mono ?_
    rintro e w2 ⟨x, rfl, h2, hs2⟩
    obtain ⟨B, hB⟩ : ∃ B, B = w1.heap.size := ⟨_, rfl⟩
    rw [← hB] at h2
    have hwB : w.heap.size ≤ B := by rw [hB]; exact HS1.out.size
    have H2 := Lib.hid h2; have HS2 := Lib.hid (HS1.out.trans hs2 (fun _ _ h => h))
    clear h2 hs2 hB
    go_wp2_with fail
    go_loopg [7] k (fun rr vi wr => ∃ (j : Nat), j + rr = k ∧ vi = .int .i64 j ∧ IxB 62 wr B x (iota j) j ∧ Same (fun _ => False) w wr)
    case atStart => exact ⟨0, by omega, rfl, H2.out, HS2.out⟩
    case round =>
      obtain ⟨j, hj, rfl, hx, hs⟩ := hrel
      by_cases hlast : j < k
      · have hl' : (j : Int) < (k : Int) := by omega
        have hjb : (j : Int) < 31 := by omega
        have HI := Lib.hid (posB_insert (i := (j : Int)) (u := j) (y := (j : Int) + 1) hx rfl (by rw [iota_length]; omega) (by rw [iota_length]; omega) (by omega) (fun h => by have := iota_mem.1 h; omega) (i64_small (by omega) (by omega)))
        have HS := Lib.hid hs
        clear hx hs
        go_wp2_with fail
        refine HI.out.mono ?_
        rintro e w3 ⟨rfl, h3, hs3⟩
        rw [iota_succ] at h3
        have H3 := Lib.hid h3; have HS3 := Lib.hid (same_up HS.out hwB hs3)
        clear h3 hs3
        go_wp2_with fail
        go_roundg (gk - 1)
        case measure => omega
        case rel => exact ⟨j + 1, by omega, by go_num, H3.out, HS3.out⟩
      · have hl' : ¬ (j : Int) < (k : Int) := by omega
        obtain rfl : k = j := by omega
        have HX := Lib.hid hx; have HS := Lib.hid hs
        clear hx hs hl' hlast
        go_wp2_with fail
        go_loopg [8] bs.length (fun rr vi wr => ∃ (j : Nat), j + rr = bs.length ∧ vi = .int .i64 j ∧ IxB 62 wr B x (st k bs j) (k + j) ∧ Same (fun _ => False) w wr)
        case atStart => exact ⟨0, by omega, rfl, HX.out, HS.out⟩
        case round =>
          obtain ⟨j, hj, rfl, hx, hs⟩ := hrel
          by_cases hlast : j < bs.length
          · have hl' : (j : Int) < (bs.length : Int) := by omega
            have hjb : (j : Int) < 41 := by omega
            have ra := HV.out.kept hs
            obtain ⟨ab, ao2, rfl, hla, hxx⟩ := ra.byte hlast
            have hb01 := HBS.out bs[j] (List.getElem_mem _)
            obtain ⟨i1, i2, e1, e2, hi1, hi2, m1, m2, m3, m4, m5⟩ := byte_parts (b := bs[j]) hk0 hb01.1
            have hgd : bs.getD j 0 = bs[j] := by simp [List.getD_eq_getElem?_getD, hlast]
            have hst : st k bs (j + 1) = swapped (st k bs j) i1 i2 := by rw [st, hgd, e1, e2]
            have HSW := Lib.hid (fun (w' : World) (hs' : Same (fun _ => False) wr w') => posB_swap (i := (i1 : Int)) (j := (i2 : Int)) (u := i1) (v := i2) (hx.keep hs') rfl rfl (by rw [st_length]; exact hi1) (by rw [st_length]; exact hi2) (by rw [st_length]; omega) (by omega))
            have HST := Lib.hid hst; have HS := Lib.hid hs
            generalize bs[j] = b at *
            obtain ⟨b0, b1⟩ := hb01
            obtain ⟨m6, m7, m8⟩ := wrap_sixteenth b0 b1
            have HSR := Lib.hid (Same.refl (fun _ => False) wr)
            clear ra hx hs hst hgd e1 e2
            go_wp2_with fail
            go_region_with (first
              | (go_at_call 20; with_reducible refine (HSW.out _ ?_).mono ?_; (focus (first | exact HSR.out.drew | exact HSR.out)); rintro e w3 ⟨rfl, h3, hs3⟩; rw [← HST.out] at h3; have H3 := Lib.hid h3; have HS3 := Lib.hid (same_up HS.out hwB (Same.trans (HSR.out.drew.weaken (fun _ _ h => h.elim)) hs3 (fun _ _ h => h))); clear h3 hs3))
            all_goals (go_wp2_with fail; go_roundg (gk - 1); (case measure => omega); (case rel => exact ⟨j + 1, by omega, by go_num, H3.out, HS3.out⟩))
          · have hl' : ¬ (j : Int) < (bs.length : Int) := by omega
            obtain rfl : bs.length = j := by omega
            have HX := Lib.hid hx; have HS := Lib.hid hs
            clear hx hs hl' hlast
            have hwl : IntKind.i64.wrap ((bs.length : Int) - 1) = (bs.length : Int) - 1 := by rw [IntKind.wrap_i64]; omega
            go_wp2_with fail
            go_loopg [9] bs.length (fun rr vi wr => rr ≤ bs.length ∧ vi = .int .i64 ((rr : Int) - 1) ∧ IxB 62 wr B x (st k bs rr) (k + bs.length + (bs.length - rr)) ∧ Same (fun _ => False) w wr)
            case atStart => exact ⟨Nat.le_refl _, rfl, by simpa using HX.out, HS.out⟩
            case round =>
              obtain ⟨hle, rfl, hx, hs⟩ := hrel
              by_cases hlast : 0 < gk
              · obtain ⟨j, hj⟩ : ∃ j, j + 1 = gk := ⟨gk - 1, by omega⟩
                rw [← hj] at hx hle ⊢
                have hcst : ((j + 1 : Nat) : Int) - 1 = (j : Int) := by omega
                rw [hcst]
                clear hcst hlast
                have hlast : j < bs.length := by omega
                have hl' : 0 ≤ (j : Int) := by omega
                have hj40 : j < 40 := by omega
                have hjb : (j : Int) < 41 := by omega
                have HBUD := Lib.hid (show k + bs.length + (bs.length - j) = k + bs.length + (bs.length - (j + 1)) + 1 by omega)
                have hwj : IntKind.i64.wrap ((j : Int) - 1) = (j : Int) - 1 := by rw [IntKind.wrap_i64]; omega
                have ra := HV.out.kept hs
                obtain ⟨ab, ao2, rfl, hla, hxx⟩ := ra.byte hlast
                have hb01 := HBS.out bs[j] (List.getElem_mem _)
                obtain ⟨i1, i2, e1, e2, hi1, hi2, m1, m2, m3, m4, m5⟩ := byte_parts (b := bs[j]) hk0 hb01.1
                have hgd : bs.getD j 0 = bs[j] := by simp [List.getD_eq_getElem?_getD, hlast]
                have hst : swapped (st k bs (j + 1)) i1 i2 = st k bs j := by rw [← e1, ← e2, ← hgd]; exact st_back hk0 bs j
                have HSW := Lib.hid (fun (w' : World) (hs' : Same (fun _ => False) wr w') => posB_swap (i := (i1 : Int)) (j := (i2 : Int)) (u := i1) (v := i2) (hx.keep hs') rfl rfl (by rw [st_length]; exact hi1) (by rw [st_length]; exact hi2) (by rw [st_length]; omega) (by omega))
                have HST := Lib.hid hst; have HS := Lib.hid hs
                generalize bs[j] = b at *
                obtain ⟨b0, b1⟩ := hb01
                obtain ⟨m6, m7, m8⟩ := wrap_sixteenth b0 b1
                have HSR := Lib.hid (Same.refl (fun _ => False) wr)
                clear ra hx hs hst hgd e1 e2
                go_wp2_with fail
                go_region_with (first
                  | (go_at_call 20; with_reducible refine (HSW.out _ ?_).mono ?_; (focus (first | exact HSR.out.drew | exact HSR.out)); rintro e w3 ⟨rfl, h3, hs3⟩; rw [HST.out] at h3; have H3 := Lib.hid h3; have HS3 := Lib.hid (same_up HS.out hwB (Same.trans (HSR.out.drew.weaken (fun _ _ h => h.elim)) hs3 (fun _ _ h => h))); clear h3 hs3))
                all_goals (go_wp2_with fail; go_roundg j; (case measure => omega); (case rel => exact ⟨by omega, by go_num, by rw [HBUD.out]; exact H3.out, HS3.out⟩))
              · obtain rfl : gk = 0 := by omega
                have HX := Lib.hid hx; have HS := Lib.hid hs
                clear hx hs hlast hle
                go_wp2_with fail
                go_loopg [10] k (fun rr vi w4 => ∃ (j : Nat), j + rr = k ∧ vi = .int .i64 j ∧ Same (fun _ => False) wr w4)
                case atStart => exact ⟨0, by omega, rfl, Same.refl _ _⟩
                case round =>
                  obtain ⟨j, hj, rfl, hs4⟩ := hrel
                  by_cases hlast : j < k
                  · have hl' : (j : Int) < (k : Int) := by omega
                    have hjb : (j : Int) < 31 := by omega
                    have hmem : (j : Int) + 1 ∈ iota k := iota_mem.2 (by omega)
                    have hidx := iota_idx hmem
                    have HA := Lib.hid (posB_at (i := (j : Int)) (u := j) (y := (j : Int) + 1) (HX.out.keep hs4) (by rw [st, iota_length]; omega) rfl (iota_get hlast))
                    have HP := Lib.hid (posB_place (y := (j : Int) + 1) (p := (j : Int)) (HX.out.keep hs4) (by rw [st, iota_length]; omega) hmem (by rw [show st k bs 0 = iota k from rfl, hidx]; omega))
                    have HS4 := Lib.hid hs4
                    clear hs4 hmem hidx
                    go_wp2_with fail
                    refine HA.out.mono ?_
                    rintro e w7 ⟨rfl, rfl⟩
                    go_wp2_with fail
                    refine HP.out.mono ?_
                    rintro e w8 ⟨rfl, hs8⟩
                    have HS8 := Lib.hid (HS4.out.trans hs8 (fun _ _ h => h))
                    clear hs8
                    go_wp2_with fail
                    go_roundg (gk - 1)
                    case measure => omega
                    case rel => exact ⟨j + 1, by omega, by go_num, HS8.out⟩
                  · have hl' : ¬ (j : Int) < (k : Int) := by omega
                    have HS5 := Lib.hid (HS.out.trans hs4 (fun _ _ h => h))
                    clear hs4
                    go_wp2_with fail
                    go_ret
                    exact ⟨rfl, HS5.out⟩

end Go.Proofs.Ytelgbigpfiohfaa
