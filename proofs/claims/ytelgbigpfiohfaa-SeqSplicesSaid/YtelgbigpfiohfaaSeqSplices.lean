/-
  SeqSplices answers true. Conditions: none.
-/
import Derived.Test.YtelgbigpfiohfaaSeqApp
import Derived.Test.YtelgbigpfiohfaaSeqO
namespace Go.Proofs.Ytelgbigpfiohfaa
open Go.RowKit Go.Extern.Stop Go.Stop Go.Extern Go.Lib Go.Maps
set_option maxRecDepth 1000000

/-- Behind base B, no block of these two rows. -/
def OffB (B : Nat) (v1 v2 : Value) (q : Nat) : Prop := B ≤ q ∧ v1.ownBlock ≠ some q ∧ v2.ownBlock ≠ some q

/-- Which rows SeqSplices picks. -/
def selB (wh b : Int) (i : Int) : Bool := decide ((wh / 2 ^ i.toNat).tmod 2 = 1) && decide (i ≠ b)

theorem selB_own (wh b : Int) : selB wh b b = false := by simp [selB]

theorem selB_at (wh b : Int) (j : Nat) : selB wh b ((j : Int) + 1) = (decide ((wh / 2 ^ (j + 1)).tmod 2 = 1) && decide ((j : Int) + 1 ≠ b)) := by
  rw [selB, show ((j : Int) + 1).toNat = j + 1 by omega]

theorem one_made {w : World} {B : Nat} (hB : B ≤ w.heap.size) (y : Int) : (w.alloc (.cells #[.int .i64 y] 2)).ownsRow B 2 1 (.slice (some ⟨w.heap.size, 0, none⟩) 1 1) [y].length (intsV [y]) :=
  ⟨by simp, .inr ⟨w.heap.size, 1, #[.int .i64 y], rfl, hB, heap_alloc_new w _, Nat.le_refl _, by unfold maxLen; omega, rfl, rfl⟩⟩

set_option maxHeartbeats 16000000 in
theorem seqSplices_any {n wh bf : Int} (w : World) (n0 : 0 ≤ n) (n1 : n ≤ 255) (wh0 : 0 ≤ wh) (wh1 : wh ≤ 65535) (b0 : 0 ≤ bf) (b1 : bf ≤ 255) :
    Calls Try.prog 7 #[.int .u8 n, .int .u16 wh, .int .u8 bf] w fun e w' => e = .returned (.bool true) ∧ Same (fun _ => False) w w' := by
  have HK := Lib.hid (known13_any w)
  obtain ⟨k, hk⟩ : ∃ k : Nat, n % 14 + 1 = (k : Int) := ⟨(n % 14).toNat + 1, by omega⟩
  have hk0 : 0 < k := by omega
  have hk31 : k ≤ 14 := by omega
  have hkz1 : ¬ ((k : Int) + 1 = 0) := by omega
  obtain ⟨b, hb, hbk⟩ : ∃ b : Nat, bf.tmod ((k : Int) + 1) = (b : Int) ∧ b ≤ k := by
    have h1 := Int.emod_nonneg bf hkz1
    have h2 := Int.emod_lt_of_pos bf (show (0 : Int) < (k : Int) + 1 by omega)
    exact ⟨(bf % ((k : Int) + 1)).toNat, by rw [Int.tmod_eq_emod_of_nonneg b0]; omega, by omega⟩
  have hbe : bf % ((k : Int) + 1) = (b : Int) := by rw [← Int.tmod_eq_emod_of_nonneg b0]; exact hb
  have hbw : IntKind.i64.wrap bf = bf := by rw [IntKind.wrap_i64]; omega
  go_enter Try.func7, Try.ntmps7
  go_wp2_with fail
  refine HK.out.mono ?_
  rintro e w1 ⟨rfl, hs1⟩
  have HNEW := Lib.hid (seqB_new w1)
  have HS1 := Lib.hid hs1
  clear hs1
  go_wp2_with fail
  refine HNEW.out.mono ?_
  rintro e w2 ⟨x, rfl, h2, hs2⟩
  obtain ⟨B, hB⟩ : ∃ B, B = w1.heap.size := ⟨_, rfl⟩
  rw [← hB] at h2
  have hwB : w.heap.size ≤ B := by rw [hB]; exact HS1.out.size
  have H2 := Lib.hid h2; have HS2 := Lib.hid (HS1.out.trans hs2 (fun _ _ h => h))
  clear h2 hs2 hB
  go_wp2_with fail
  obtain ⟨sel, hsel⟩ : ∃ sel, sel = selB wh b := ⟨_, rfl⟩
  go_loopg [9, 10, 12] k (fun rr v1 v2 vi wr => ∃ (j : Nat), j + rr = k ∧ vi = .int .i64 ((j : Int) + 1) ∧ wr.ownsRow B 2 1 v1 (picked sel j).length (intsV (picked sel j)) ∧ wr.ownsRow B 2 1 v2 (stays sel j).length (intsV (stays sel j)) ∧ (∀ q, v1.ownBlock = some q → v2.ownBlock ≠ some q) ∧ IxP 67 wr (OffB B v1 v2) x (iota j) j ∧ Same (fun _ => False) w wr)
  case atStart => exact ⟨0, by omega, rfl, World.ownsRow_nil _ _ _ _, World.ownsRow_nil _ _ _ _, (fun q h => by cases h), by
    obtain ⟨c, N, hi, h2⟩ := H2.out
    exact ⟨c, N, hi.mono (fun q _ hB => ⟨hB, by simp [Value.ownBlock], by simp [Value.ownBlock]⟩), h2⟩, HS2.out⟩
  case round =>
    obtain ⟨j, hj, rfl, hr1, hr2, hne, hx, hs⟩ := hrel
    by_cases hlast : j < k
    · have hl' : (j : Int) + 1 ≤ (k : Int) := by omega
      have hjb : (j : Int) < 31 := by omega
      have hBw : B ≤ wr.heap.size := by
        obtain ⟨c, N, ⟨t, mb, hxp, _, hblk, _⟩, _⟩ := hx
        have := lt_of_block hblk
        have h9 : B ≤ x := hxp.1
        omega
      have hadd := seqP_add (y := (j : Int) + 1) hx (fun q hq => ⟨by omega, fun e => by have := (hr1.lt q e).2; omega, fun e => by have := (hr2.lt q e).2; omega⟩) (by rw [iota_length]; omega) (by omega) (fun h => by have := iota_mem.1 h; omega) (i64_small (by omega) (by omega))
      rw [← iota_more] at hadd
      have HI := Lib.hid hadd
      have HS := Lib.hid hs; have HR1 := Lib.hid hr1; have HR2 := Lib.hid hr2; have HNE := Lib.hid hne; have HSEL := Lib.hid hsel
      clear hx hs hadd hr1 hr2 hne hsel
      go_wp2_with fail
      refine HI.out.mono ?_
      rintro e w3 ⟨rfl, h3, hs3⟩
      have H3 := Lib.hid h3
      have HR13 := Lib.hid (hs3.row HR1.out (fun q hq hF => hF.2.1 hq)); have HR23 := Lib.hid (hs3.row HR2.out (fun q hq hF => hF.2.2 hq))
      have HS3 := Lib.hid (same_up HS.out hwB (hs3.weaken (fun _ _ h => h.1)))
      have hw3 : B ≤ w3.heap.size := by have := hs3.size; omega
      clear h3 hs3
      have hsz4 : (w3.alloc (.cells #[.int .i64 ((j : Int) + 1)] 2)).heap.size = w3.heap.size + 1 := by simp
      have HSA := Lib.hid (show Same (fun _ => False) w3 (w3.alloc (.cells #[.int .i64 ((j : Int) + 1)] 2)) from (Same.refl _ w3).alloc _)
      have HMD := Lib.hid (one_made hw3 ((j : Int) + 1))
      have HSZ := Lib.hid hsz4
      have hpl := picked_length sel j
      have hsl := stays_length sel j
      have HPL := Lib.hid hpl; have HSL := Lib.hid hsl
      clear hsz4 hpl hsl
      by_cases hc : (wh / 2 ^ (j + 1)).tmod 2 = 1 ∧ ¬ ((j : Int) + 1 = (b : Int))
      · obtain ⟨hc1, hc2⟩ := hc
        have hse : sel ((j : Int) + 1) = true := by rw [HSEL.out, selB_at]; simp [hc1, hc2]
        have HPY := Lib.hid (picked_yes hse); have HSY := Lib.hid (stays_yes hse)
        have HRD := Lib.hid ((ownsRow_read HR13.out).kept HSA.out (fun _ _ h => h))
        clear hse
        go_wp2_with (first
          | (at_builtin; refine wpList_append_ints (w3.alloc (.cells #[.int .i64 ((j : Int) + 1)] 2)) rfl (.tmp 47) (.tmp 48) rfl B _ [(j : Int) + 1] rfl HMD.out u9 (picked sel j) rfl HRD.out (by have := HPL.out; simp; omega) (by have := HSZ.out; omega) ?_))
        intro v' w4 ho4 hs4 hb4
        have ho4 : w4.ownsRow B 2 1 v' (picked sel (j + 1)).length (intsV (picked sel (j + 1))) := by rw [HPY.out]; simpa using ho4
        have hs34 : Same (fun _ => False) w3 w4 := HSA.out.trans hs4 (fun i hi hF => by simp only [Value.ownBlock, Option.some.injEq] at hF; omega)
        have hbq : ∀ q, v'.ownBlock = some q → w3.heap.size ≤ q := fun q hq => by
          rcases hb4 q hq with h | h
          · simp only [Value.ownBlock, Option.some.injEq] at h; omega
          · have := HSZ.out; omega
        have HO4 := Lib.hid ho4
        have HU4 := Lib.hid (show w4.ownsRow B 2 1 u10 (stays sel (j + 1)).length (intsV (stays sel (j + 1))) by rw [HSY.out]; exact hs34.row HR23.out (fun _ _ h => h))
        have HN4 := Lib.hid (show ∀ q, v'.ownBlock = some q → u10.ownBlock ≠ some q from fun q hq e => by have h1 := hbq q hq; have h2 := (HR23.out.lt q e).2; omega)
        have HX4 := Lib.hid (show IxP 67 w4 (OffB B v' u10) x (iota (j + 1)) (j + 1) by
          obtain ⟨c, N, hi, h2⟩ := H3.out
          exact ⟨c, N, (hi.mono (fun q hq hp => ⟨hp.1, fun e => by have := hbq q e; omega, hp.2.2⟩)).keep hs34 (fun _ h => h.elim), h2⟩)
        have HS4 := Lib.hid (HS3.out.trans hs34 (fun _ _ h => h))
        clear ho4 hs4 hb4 hs34 hbq
        go_wp2_with fail
        go_roundg (gk - 1)
        case measure => omega
        case rel => exact ⟨j + 1, by omega, by go_num, HO4.out, HU4.out, HN4.out, HX4.out, HS4.out⟩
      · have hc' : ¬ (wh / 2 ^ (j + 1)).tmod 2 = 1 ∨ ((wh / 2 ^ (j + 1)).tmod 2 = 1 ∧ ((j : Int) + 1 != (b : Int)) = false) := by
          by_cases e : (wh / 2 ^ (j + 1)).tmod 2 = 1
          · exact Or.inr ⟨e, by have h9 : (j : Int) + 1 = (b : Int) := Classical.not_not.1 (fun h => hc ⟨e, h⟩); simp [h9]⟩
          · exact Or.inl e
        have hse : sel ((j : Int) + 1) = false := by
          rw [HSEL.out, selB_at]
          rcases hc' with h | ⟨h1, h2⟩
          · simp [h]
          · have h9 : (j : Int) + 1 = (b : Int) := by simpa using h2
            simp [h9]
        have HPY := Lib.hid (picked_no hse); have HSY := Lib.hid (stays_no hse)
        have HRD := Lib.hid (ownsRow_read HMD.out)
        have HUA := Lib.hid (HSA.out.row HR23.out (fun _ _ h => h))
        have HSB := Lib.hid (picked_no hse)
        clear hse hc
        rcases hc' with hc1 | ⟨hc1, hc2⟩
        all_goals (
          go_wp2_with (first
            | (at_builtin; refine wpList_append_ints (w3.alloc (.cells #[.int .i64 ((j : Int) + 1)] 2)) rfl (.tmp 50) (.tmp 52) rfl B u10 (stays sel j) rfl HUA.out _ [(j : Int) + 1] rfl HRD.out (by have := HSL.out; simp; omega) (by have := HSZ.out; omega) ?_))
          intro v' w4 ho4 hs4 hb4
          have ho4 : w4.ownsRow B 2 1 v' (stays sel (j + 1)).length (intsV (stays sel (j + 1))) := by rw [HSY.out]; simpa using ho4
          have hs34 : Same (fun q => u10.ownBlock = some q) w3 w4 := (HSA.out.weaken (fun _ _ h => h.elim)).trans hs4 (fun _ _ h => h)
          have hbq : ∀ q, v'.ownBlock = some q → u10.ownBlock = some q ∨ w3.heap.size ≤ q := fun q hq => (hb4 q hq).imp id (fun h => by have := HSZ.out; omega)
          have HO4 := Lib.hid ho4
          have HU4 := Lib.hid (show w4.ownsRow B 2 1 u9 (picked sel (j + 1)).length (intsV (picked sel (j + 1))) by rw [HPY.out]; exact hs34.row HR13.out (fun q hq h => HNE.out q hq h))
          have HN4 := Lib.hid (show ∀ q, u9.ownBlock = some q → v'.ownBlock ≠ some q from fun q hq e => by
            rcases hbq q e with h | h
            · exact HNE.out q hq h
            · have h2 := (HR13.out.lt q hq).2; omega)
          have HX4 := Lib.hid (show IxP 67 w4 (OffB B u9 v') x (iota (j + 1)) (j + 1) by
            obtain ⟨c, N, hi, h2⟩ := H3.out
            have hi' := hi.mono (Q := fun q => OffB B u9 u10 q ∧ v'.ownBlock ≠ some q) (fun q hq hp => ⟨hp, fun e => by
              rcases hbq q e with h | h
              · exact hp.2.2 h
              · omega⟩)
            exact ⟨c, N, (hi'.keep hs34 (fun q hF hp => hp.1.2.2 hF)).mono (fun q _ hp => ⟨hp.1.1, hp.1.2.1, hp.2⟩), h2⟩)
          have HS4 := Lib.hid (HS3.out.trans hs34 (fun i hi hF => by have := (HR23.out.lt i hF).1; omega))
          clear ho4 hs4 hb4 hs34 hbq
          go_wp2_with fail
          go_roundg (gk - 1)
          case measure => omega
          case rel => exact ⟨j + 1, by omega, by go_num, HU4.out, HO4.out, HN4.out, HX4.out, HS4.out⟩)
    · have hl' : ¬ (j : Int) + 1 ≤ (k : Int) := by omega
      obtain rfl : k = j := by omega
      have hse : sel (b : Int) = false := by rw [hsel]; exact selB_own _ _
      have hbm : (b : Int) = 0 ∨ (b : Int) ∈ iota k := by
        by_cases e : b = 0
        · exact Or.inl (by omega)
        · exact Or.inr (iota_mem.2 (by omega))
      have hBw : B ≤ wr.heap.size := by
        obtain ⟨c, N, ⟨t, mb, hxp, _, hblk, _⟩, _⟩ := hx
        have := lt_of_block hblk
        have h9 : B ≤ x := hxp.1
        omega
      obtain ⟨hpn, hpm⟩ := picked_facts (k := k) hse
      have hpl := picked_length sel k
      have hsl := stays_length sel k
      have hall := splices_all hse hbm
      have HSP := Lib.hid (seqP_splice (z := (b : Int)) hx (fun q hq => ⟨by omega, fun e => by have := (hr1.lt q e).2; omega, fun e => by have := (hr2.lt q e).2; omega⟩) (ownsRow_read hr1) (fun q hq hp => hp.2.1 hq) (by omega) (by rw [iota_length]; omega) (by omega) hpn hpm hbm (i64_small (by omega) (by omega)))
      have HR1 := Lib.hid (ownsRow_read hr1); have HR2 := Lib.hid (ownsRow_read hr2); have HS := Lib.hid hs
      have HALL := Lib.hid hall
      obtain ⟨a1, c1, rfl⟩ : ∃ a1 c1, u9 = .slice a1 (picked sel k).length c1 := by
        obtain ⟨a1, c1, e, _⟩ := ownsRow_read hr1
        exact ⟨a1, c1, by rw [e]; simp⟩
      obtain ⟨a2, c2, rfl⟩ : ∃ a2 c2, u10 = .slice a2 (stays sel k).length c2 := by
        obtain ⟨a2, c2, e, _⟩ := ownsRow_read hr2
        exact ⟨a2, c2, by rw [e]; simp⟩
      clear hse hbm hpn hpm hall hx hr1 hr2 hne hs hsel
      generalize picked sel k = I at *
      generalize stays sel k = S at *
      clear hlast
      go_wp2_with fail
      refine HSP.out.mono ?_
      rintro e w5 ⟨rfl, h5, hs5⟩
      rw [HALL.out] at h5
      have HX5 := Lib.hid h5
      have HR15 := Lib.hid (HR1.out.kept hs5 (fun q hq hF => hF.2.1 hq)); have HR25 := Lib.hid (HR2.out.kept hs5 (fun q hq hF => hF.2.2 hq))
      have HS5 := Lib.hid (same_up HS.out hwB (hs5.weaken (fun _ _ h => h.1)))
      clear h5 hs5 HSP
      go_wp2_with fail
      go_loopg [13, 14] S.length (fun rr v3 vi w6 => ∃ (j : Nat), j + rr = S.length ∧ vi = .int .i64 j ∧ w6.ownsRow w5.heap.size 2 1 v3 (wantOf (S.take j) b I).length (intsV (wantOf (S.take j) b I)) ∧ Same (fun _ => False) w5 w6)
      case atStart => exact ⟨0, by omega, rfl, by simpa [wantOf] using World.ownsRow_nil _ _ _ _, Same.refl _ _⟩
      case round =>
        obtain ⟨j, hj, rfl, ho, hs6⟩ := hrel
        by_cases hlast : j < S.length
        · have hlj : (j : Int) < (S.length : Int) := by omega
          have hjb : (j : Int) < 31 := by omega
          have ra := HR25.out.kept hs6 (fun _ _ h => h)
          obtain ⟨ab, ao2, ac2, acs, afr, ea, hab, _⟩ := ra.where (by simpa using (by omega : 0 < S.length))
          simp only [Value.slice.injEq] at ea
          obtain ⟨rfl, -, -⟩ := ea
          have hxx := ra.cell (j := j) (x := .int .i64 S[j]) (by simp [hlast])
          have hla := lt_of_block hab
          have htk : S.take (j + 1) = S.take j ++ [S[j]] := (List.take_append_getElem hlast).symm
          have hwl := wantOf_length b I (S.take j)
          have hws := wantOf_snoc (S.take j) b I S[j]
          rw [← htk] at hws
          have hwb : (wantOf (S.take j) b I).length ≤ 1000 := by
            have h1 : (S.take j).length ≤ 14 := by rw [List.length_take]; omega
            have h2 : (S.take j).length * (I.length + 1) ≤ 14 * 15 := Nat.mul_le_mul h1 (by omega)
            omega
          have HO := Lib.hid ho; have HS6 := Lib.hid hs6; have HWS := Lib.hid hws; have HWB := Lib.hid hwb
          have HRA := Lib.hid ra
          have HR16 := Lib.hid (HR15.out.kept hs6 (fun _ _ h => h))
          have hsz6 := hs6.size
          have HSJ := Lib.hid (show S[j]? = some S[j] from List.getElem?_eq_getElem hlast)
          generalize S[j] = y at *
          generalize hWt : wantOf (S.take j) b I = Wt at *
          generalize hWn : wantOf (S.take (j + 1)) b I = Wn at *
          clear hab ra ho hs6 htk hwl hws hwb
          by_cases hyb : y = (b : Int)
          · have HWN := Lib.hid (show Wn = Wt ++ I ++ [y] by rw [HWS.out, if_pos hyb]; simp)
            subst hyb
            go_wp2_with (first
              | (at_builtin; refine wpList_append_ints wr rfl (.tmp 71) (.tmp 72) rfl w5.heap.size u13 Wt rfl HO.out _ I rfl HR16.out (by have := HWB.out; omega) (by exact hsz6) ?_))
            intro v6 w6 ho6 hs6 hb6
            have ho6 : w6.ownsRow w5.heap.size 2 1 v6 (Wt ++ I).length (intsV (Wt ++ I)) := by simpa using ho6
            have hs56 : Same (fun _ => False) w5 w6 := HS6.out.trans hs6 (fun i hi hF => by have := (HO.out.lt i hF).1; omega)
            have hx6 : w6.cell? ⟨ab, ao2 + j, none⟩ = some (.int .i64 (b : Int)) := (HR25.out.kept hs56 (fun _ _ h => h)).cell (j := j) (x := .int .i64 (b : Int)) (by simp [HSJ.out])
            have hla6 : ab < w6.heap.size := by have := hs6.size; omega
            have hsz56 : w5.heap.size ≤ w6.heap.size := hs56.size
            have HO6 := Lib.hid ho6; have HS56 := Lib.hid hs56
            have HMD := Lib.hid (one_made (B := w5.heap.size) hsz56 (b : Int))
            have HSA := Lib.hid (show Same (fun _ => False) w6 (w6.alloc (.cells #[.int .i64 (b : Int)] 2)) from (Same.refl _ w6).alloc _)
            have HSZ := Lib.hid (show (w6.alloc (.cells #[.int .i64 (b : Int)] 2)).heap.size = w6.heap.size + 1 by simp)
            have HRD := Lib.hid (ownsRow_read HMD.out)
            have HOA := Lib.hid (HSA.out.row HO6.out (fun _ _ h => h))
            clear ho6 hs6 hb6 hs56 hxx hla
            go_wp2_with (first
              | (at_builtin; refine wpList_append_ints (w6.alloc (.cells #[.int .i64 (b : Int)] 2)) rfl (.tmp 74) (.tmp 79) rfl w5.heap.size v6 (Wt ++ I) rfl HOA.out _ [(b : Int)] rfl HRD.out (by have := HWB.out; simp; omega) (by have := HSZ.out; omega) ?_))
            intro v' w7 ho7 hs7 hb7
            have ho7 : w7.ownsRow w5.heap.size 2 1 v' Wn.length (intsV Wn) := by rw [HWN.out]; simpa [Nat.add_assoc] using ho7
            have hs57 : Same (fun _ => False) w5 w7 := (HS56.out.trans HSA.out (fun _ _ h => h)).trans hs7 (fun i hi hF => by have := (HO6.out.lt i hF).1; omega)
            have HO7 := Lib.hid ho7; have HS7 := Lib.hid hs57
            clear ho7 hs7 hb7 hs57
            go_wp2_with fail
            go_roundg (gk - 1)
            case measure => omega
            case rel => exact ⟨j + 1, by omega, by go_num, by rw [hWn]; exact HO7.out, HS7.out⟩
          · have HWN := Lib.hid (show Wn = Wt ++ [y] by rw [HWS.out, if_neg hyb])
            have HMD := Lib.hid (one_made (B := w5.heap.size) hsz6 y)
            have HSA := Lib.hid (show Same (fun _ => False) wr (wr.alloc (.cells #[.int .i64 y] 2)) from (Same.refl _ wr).alloc _)
            have HSZ := Lib.hid (show (wr.alloc (.cells #[.int .i64 y] 2)).heap.size = wr.heap.size + 1 by simp)
            have HRD := Lib.hid (ownsRow_read HMD.out)
            have HOA := Lib.hid (HSA.out.row HO.out (fun _ _ h => h))
            go_wp2_with (first
              | (at_builtin; refine wpList_append_ints (wr.alloc (.cells #[.int .i64 y] 2)) rfl (.tmp 74) (.tmp 79) rfl w5.heap.size u13 Wt rfl HOA.out _ [y] rfl HRD.out (by have := HWB.out; simp; omega) (by have := HSZ.out; omega) ?_))
            intro v' w7 ho7 hs7 hb7
            have ho7 : w7.ownsRow w5.heap.size 2 1 v' Wn.length (intsV Wn) := by rw [HWN.out]; simpa using ho7
            have hs57 : Same (fun _ => False) w5 w7 := (HS6.out.trans HSA.out (fun _ _ h => h)).trans hs7 (fun i hi hF => by have := (HO.out.lt i hF).1; omega)
            have HO7 := Lib.hid ho7; have HS7 := Lib.hid hs57
            clear ho7 hs7 hb7 hs57
            go_wp2_with fail
            go_roundg (gk - 1)
            case measure => omega
            case rel => exact ⟨j + 1, by omega, by go_num, by rw [hWn]; exact HO7.out, HS7.out⟩
        · have hlj : ¬ (j : Int) < (S.length : Int) := by omega
          obtain rfl : S.length = j := by omega
          rw [List.take_length] at ho
          have hwb : (wantOf S b I).length ≤ 1000 := by
            have h1 := wantOf_length b I S
            have h2 : S.length * (I.length + 1) ≤ 14 * 15 := Nat.mul_le_mul (by omega) (by omega)
            omega
          have HWB := Lib.hid hwb
          have hsz6 := hs6.size
          have HO := Lib.hid ho; have HS6 := Lib.hid hs6
          have HR16 := Lib.hid (HR15.out.kept hs6 (fun _ _ h => h))
          generalize hWt : wantOf S b I = Wt at *
          clear ho hs6 hwb hlast
          by_cases hb0 : (b : Int) = 0
          · have HL := Lib.hid (show Wt ++ (if (b : Int) = 0 then I else []) = Wt ++ I by rw [if_pos hb0])
            go_wp2_with (first
              | (at_builtin; refine wpList_append_ints wr rfl (.tmp 83) (.tmp 84) rfl w5.heap.size u13 Wt rfl HO.out _ I rfl HR16.out (by have := HWB.out; omega) (by exact hsz6) ?_))
            intro v6 w6 ho6 hs6 hb6
            have ho6 : w6.ownsRow w5.heap.size 2 1 v6 (Wt ++ I).length (intsV (Wt ++ I)) := by simpa using ho6
            have hs56 : Same (fun _ => False) w5 w6 := HS6.out.trans hs6 (fun i hi hF => by have := (HO.out.lt i hF).1; omega)
            have h6 := HX5.out.keep hs56
            rw [HL.out] at h6
            have HA := Lib.hid (show Calls Try.prog 17 #[.pointer (some ⟨x, 0, none⟩)] w6 _ from by
              obtain ⟨c, N, hi, h2⟩ := h6
              exact seq_all hi (by have := HWB.out; simp; omega))
            have HO6 := Lib.hid ho6; have HS56 := Lib.hid (HS5.out.trans hs56 (fun _ _ h => h))
            clear ho6 hs6 hb6 hs56 h6
            go_wp2_with fail
            refine HA.out.mono ?_
            rintro e w7 ⟨v7, rfl, ho7, hs7⟩
            have HI := Lib.hid (ids_any (ownsRow_read ho7) ((ownsRow_read HO6.out).kept hs7 (fun _ _ h => h)) (by have := HWB.out; simp; omega))
            have HS7 := Lib.hid (HS56.out.trans hs7 (fun _ _ h => h))
            clear ho7 hs7
            go_wp2_with fail
            refine HI.out.mono ?_
            rintro e w8 ⟨rfl, hs8⟩
            have HS8 := Lib.hid (HS7.out.trans hs8 (fun _ _ h => h))
            clear hs8
            go_wp2_with fail
            go_ret
            exact ⟨rfl, HS8.out⟩
          · have HL := Lib.hid (show Wt ++ (if (b : Int) = 0 then I else []) = Wt by rw [if_neg hb0, List.append_nil])
            have h6 := HX5.out.keep HS6.out
            rw [HL.out] at h6
            have HA := Lib.hid (show Calls Try.prog 17 #[.pointer (some ⟨x, 0, none⟩)] wr _ from by
              obtain ⟨c, N, hi, h2⟩ := h6
              exact seq_all hi (by have := HWB.out; omega))
            have HS56 := Lib.hid (HS5.out.trans HS6.out (fun _ _ h => h))
            clear h6
            go_wp2_with fail
            refine HA.out.mono ?_
            rintro e w7 ⟨v7, rfl, ho7, hs7⟩
            have HI := Lib.hid (ids_any (ownsRow_read ho7) ((ownsRow_read HO.out).kept hs7 (fun _ _ h => h)) (by have := HWB.out; omega))
            have HS7 := Lib.hid (HS56.out.trans hs7 (fun _ _ h => h))
            clear ho7 hs7
            go_wp2_with fail
            refine HI.out.mono ?_
            rintro e w8 ⟨rfl, hs8⟩
            have HS8 := Lib.hid (HS7.out.trans hs8 (fun _ _ h => h))
            clear hs8
            go_wp2_with fail
            go_ret
            exact ⟨rfl, HS8.out⟩

end Go.Proofs.Ytelgbigpfiohfaa
