/-
  SeqMoves answers true. Conditions: none.
-/
import Derived.Test.YtelgbigpfiohfaaSeqP
import Derived.Test.YtelgbigpfiohfaaSeqM
import Derived.Test.YtelgbigpfiohfaaPosOpen
namespace Go.Proofs.Ytelgbigpfiohfaa
open Go.RowKit Go.Extern.Stop Go.Stop Go.Extern Go.Lib Go.Maps
set_option maxRecDepth 1000000

theorem iota_app (j : Nat) : iota j ++ [(j : Int) + 1] = iota (j + 1) := by simp [iota, List.range_succ]

/-- What a byte says: which row, ahead of which. -/
theorem byte_move {b : Int} {k : Nat} (hk : 0 < k) (h0 : 0 ≤ b) (h1 : b ≤ 255) (hk1 : k ≤ 100) : ∃ y z : Nat, 1 ≤ y ∧ y ≤ k ∧ z ≤ k ∧ b.tmod (k : Int) + 1 = (y : Int) ∧ b % (k : Int) + 1 = (y : Int) ∧ (b.tdiv 16).tmod ((k : Int) + 1) = (z : Int) ∧ (b / 16).tmod ((k : Int) + 1) = (z : Int) ∧ b / 16 % ((k : Int) + 1) = (z : Int) ∧ IntKind.i64.wrap b = b ∧ IntKind.i64.wrap (b.tdiv 16) = b.tdiv 16 ∧ IntKind.i64.wrap (b / 16) = b / 16 := by
  obtain ⟨n, rfl⟩ : ∃ n : Nat, b = n := ⟨b.toNat, by omega⟩
  have h2 := Nat.mod_lt n hk
  have h3 := Nat.mod_lt (n / 16) (show 0 < k + 1 by omega)
  have e16 : (n : Int) / 16 = ((n / 16 : Nat) : Int) := rfl
  have e17 : (n : Int).tdiv 16 = ((n / 16 : Nat) : Int) := rfl
  have hq : n / 16 ≤ n := Nat.div_le_self n 16
  have ek : (k : Int) + 1 = ((k + 1 : Nat) : Int) := rfl
  refine ⟨n % k + 1, n / 16 % (k + 1), by omega, by omega, by omega, rfl, rfl, ?_, ?_, ?_, ?_, ?_, ?_⟩
  · rw [e17, ek]; rfl
  · rw [e16, ek]; rfl
  · rw [e16, ek]; rfl
  · rw [IntKind.wrap_i64]; omega
  · rw [e17, IntKind.wrap_i64]; omega
  · rw [e16, IntKind.wrap_i64]; omega

set_option maxHeartbeats 16000000 in
theorem seqMoves_any {n : Int} {v : Value} {bs : List Int} (w : World) (n0 : 0 ≤ n) (n1 : n ≤ 255) (hv : ReadU w v bs) (hbs : ∀ b ∈ bs, 0 ≤ b ∧ b ≤ 255) :
    Calls Try.prog 4 #[.int .u8 n, v] w fun e w' => e = .returned (.bool true) ∧ Same (fun _ => False) w w' := by
  have HK := Lib.hid (known13_any w)
  have hcap : ∃ ao cap, v = .slice ao bs.length cap := by
    obtain ⟨ao, cap, rfl, _⟩ := hv
    exact ⟨ao, cap, rfl⟩
  obtain ⟨ao, cap, rfl⟩ := hcap
  obtain ⟨k, hk⟩ : ∃ k : Nat, n % 20 + 2 = (k : Int) := ⟨(n % 20).toNat + 2, by omega⟩
  have hk0 : 0 < k := by omega
  have hk31 : k ≤ 21 := by omega
  have hkz : ¬ ((k : Int) = 0) := by omega
  have hkz1 : ¬ ((k : Int) + 1 = 0) := by omega
  have HV := Lib.hid hv; have HBS := Lib.hid hbs
  clear hv hbs
  by_cases h40 : (bs.length : Int) > 40
  · go_enter Try.func4, Try.ntmps4
    go_wp2_with fail
    refine HK.out.mono ?_
    rintro e w1 ⟨rfl, hs1⟩
    have HS1 := Lib.hid hs1
    clear hs1
    go_wp2_with fail
    go_ret
    exact ⟨rfl, HS1.out⟩
  · have h40' : bs.length ≤ 40 := by omega
    go_enter Try.func4, Try.ntmps4
    go_wp2_with fail
    refine HK.out.mono ?_
    rintro e w1 ⟨rfl, hs1⟩
    have HNEW := Lib.hid (seqB_new w1)
    have HS1 := Lib.hid hs1
    clear hs1
    go_wp2_with fail
    refine HNEW.out.mono ?_
    rintro e w2 ⟨x, rfl, h2, hs2⟩
    obtain ⟨B, hB⟩ : ∃ B, B = w1.heap.size := ⟨_, rfl⟩
    rw [← hB] at h2
    have hwB : w.heap.size ≤ B := by rw [hB]; exact HS1.out.size
    have H2 := Lib.hid h2; have HS2 := Lib.hid (HS1.out.trans hs2 (fun _ _ h => h))
    clear h2 hs2 hB
    go_wp2_with fail
    go_loopg [7] k (fun rr vi wr => ∃ (j : Nat), j + rr = k ∧ vi = .int .i64 ((j : Int) + 1) ∧ IxB 67 wr B x (iota j) j ∧ Same (fun _ => False) w wr)
    case atStart => exact ⟨0, by omega, rfl, H2.out, HS2.out⟩
    case round =>
      obtain ⟨j, hj, rfl, hx, hs⟩ := hrel
      by_cases hlast : j < k
      · have hl' : (j : Int) + 1 ≤ (k : Int) := by omega
        have hjb : (j : Int) < 31 := by omega
        have hadd := seqB_add (y := (j : Int) + 1) hx (by rw [iota_length]; omega) (by omega) (fun h => by have := iota_mem.1 h; omega) (i64_small (by omega) (by omega))
        rw [iota_app] at hadd
        have HI := Lib.hid hadd
        have HS := Lib.hid hs
        clear hx hs hadd
        go_wp2_with fail
        refine HI.out.mono ?_
        rintro e w3 ⟨rfl, h3, hs3⟩
        have H3 := Lib.hid h3; have HS3 := Lib.hid (same_up HS.out hwB hs3)
        clear h3 hs3
        go_wp2_with fail
        go_roundg (gk - 1)
        case measure => omega
        case rel => exact ⟨j + 1, by omega, by go_num, H3.out, HS3.out⟩
      · have hl' : ¬ (j : Int) + 1 ≤ (k : Int) := by omega
        obtain rfl : k = j := by omega
        have HX := Lib.hid hx; have HS := Lib.hid hs
        clear hx hs hlast
        go_wp2_with fail
        clear hl'
        go_loopg [8] bs.length (fun rr vi wr => ∃ (j : Nat) (L : List Int), j + rr = bs.length ∧ vi = .int .i64 j ∧ IxB 67 wr B x L (k + 2 * j) ∧ L.length = k ∧ (∀ y, y ∈ L ↔ 1 ≤ y ∧ y ≤ (k : Int)) ∧ Same (fun _ => False) w wr)
        case atStart => exact ⟨0, iota k, by omega, rfl, HX.out, iota_length k, fun y => iota_mem, HS.out⟩
        case round =>
          obtain ⟨j, L, hj, rfl, hx, hlen, hmem, hs⟩ := hrel
          by_cases hlast : j < bs.length
          · have hl' : (j : Int) < (bs.length : Int) := by omega
            have hjb : (j : Int) < 41 := by omega
            have ra := HV.out.kept hs
            obtain ⟨ab, ao2, rfl, hla, hxx⟩ := ra.byte hlast
            have hb01 := HBS.out bs[j] (List.getElem_mem _)
            generalize bs[j] = b at *
            obtain ⟨b0, b1⟩ := hb01
            obtain ⟨y, z, hy1, hyk, hzk, m1, m2, m3, m4, m5, m6, m7, m8⟩ := byte_move (b := b) hk0 b0 b1 (by omega)
            have hyL : (y : Int) ∈ L := (hmem y).2 (by omega)
            have hy0 : (y : Int) ≠ 0 := by omega
            have hzL : (z : Int) = 0 ∨ (z : Int) ∈ L := by
              by_cases e : z = 0
              · exact Or.inl (by omega)
              · exact Or.inr ((hmem z).2 (by omega))
            have hi : L.idxOf (y : Int) < L.length := List.idxOf_lt_length_iff.2 hyL
            have hyb : (y : Int) < 32 := by omega
            have hzb : (z : Int) < 32 := by omega
            obtain ⟨f1, f2, f3, f4, f5, f6⟩ := movedB_facts hx.ok.1 hyL hy0 hzL
            have hyM : (y : Int) ∈ movedB L y z := (f3 y).2 hyL
            have ha : (movedB L (y : Int) z).idxOf (y : Int) < (movedB L y z).length := List.idxOf_lt_length_iff.2 hyM
            have hgL : L[L.idxOf (y : Int)]? = some (y : Int) := idxOf_get hyL
            have hgM : (movedB L y z)[(movedB L (y : Int) z).idxOf (y : Int)]? = some (y : Int) := idxOf_get hyM
            have hnL := hx.ok.1
            have HALL := Lib.hid (fun (w' : World) (hs' : Same (fun _ => False) wr w') => seqB_all_at (n := k) (hx.keep hs') (by omega) hlen hk0)
            have HMV := Lib.hid (fun (w' : World) (g : Nat) (hx' : IxP 67 w' (BesideG B g) x L (k + 2 * j)) (hP : ∀ q, w'.heap.size ≤ q → BesideG B g q) => seqP_move (z := (z : Int)) hx' hP (by omega) (by omega) hyL hy0 hzL (i64_small (by omega) (by omega)) rfl)
            have HAL2 := Lib.hid (fun (w' : World) (hx' : IxB 67 w' B x (movedB L y z) (k + 2 * j + 2)) => seqB_all_at (n := k) hx' (by omega) (f1.trans hlen) hk0)
            have HPLC := Lib.hid (fun (w' : World) (hx' : IxB 67 w' B x (movedB L y z) (k + 2 * j + 2)) => seqB_place hx' (by omega) hyM rfl)
            have HF3 := Lib.hid (fun q => (f3 q).trans (hmem q))
            have HFL := Lib.hid (f1.trans hlen)
            have hik : L.idxOf (y : Int) < k := by omega
            have hak : (movedB L (y : Int) z).idxOf (y : Int) < k := by omega
            have f4' : (z : Int) = 0 → (movedB L (y : Int) z).idxOf (y : Int) = k - 1 := fun h => by rw [f4 h, hlen]
            have HSK := Lib.hid (fun (m : Nat) (hm : m < k) (hne : m ≠ L.idxOf (y : Int)) => skip_step hi ha f1 f6 (by omega : m < L.length) hne)
            have HNE := Lib.hid (fun (m : Nat) (hm : m < k) (hne : m ≠ L.idxOf (y : Int)) => by
              have hml : m < L.length := by omega
              refine (⟨L[m], List.getElem?_eq_getElem hml, fun e => hne ?_⟩ : ∃ q, L[m]? = some q ∧ q ≠ (y : Int))
              rw [← e]
              exact (hnL.idxOf_getElem m hml).symm)
            generalize hM : movedB L (y : Int) z = M at *
            generalize hip : L.idxOf (y : Int) = i at *
            generalize hap : M.idxOf (y : Int) = a at *
            have HS := Lib.hid hs; have HF5 := Lib.hid f5; have HF4 := Lib.hid f4'; have HGL := Lib.hid hgL; have HGM := Lib.hid hgM; have HLN := Lib.hid hlen
            clear ra hx hs hlen hmem hyL hzL hi f1 f2 f3 f4 f5 f6 hyM ha hgL hgM hnL f4' hM hip hap
            have hib : (i : Int) < 32 := by omega
            have hab' : (a : Int) < 32 := by omega
            have hik' : (i : Int) < (k : Int) := by omega
            have hak' : (a : Int) < (k : Int) := by omega
            have hwk : IntKind.i64.wrap ((k : Int) - 1) = (k : Int) - 1 := by rw [IntKind.wrap_i64]; omega
            go_wp2_with fail
            go_quiet (fail)
            go_wp2_with fail
            refine (HALL.out _ ((Same.refl _ wr).drewN _)).mono ?_
            rintro e w4 ⟨g1, c1, rfl, r1, p4, up4, hs4, hg1⟩
            have R1 := Lib.hid r1; have HMV4 := Lib.hid (HMV.out w4 g1 p4 up4); have HS4 := Lib.hid ((HS.out.drewN _).trans hs4 (fun _ _ h => h))
            clear r1 p4 up4 hs4
            go_wp2_with fail
            refine HMV4.out.mono ?_
            rintro e w5 ⟨rfl, p5, hs5⟩
            have R15 := Lib.hid (R1.out.kept hs5 (fun q hq hF => hF.2 (Option.some.inj hq).symm)); have HX5 := Lib.hid p5.wide
            have HS5 := Lib.hid (same_up HS4.out hwB (hs5.weaken (fun _ _ h => h.1)))
            have hg15 : g1 < w5.heap.size := by have := hs5.size; omega
            have HAL5 := Lib.hid (HAL2.out w5 p5.wide)
            clear p5 hs5 HMV4
            go_wp2_with fail
            refine HAL5.out.mono ?_
            rintro e w6 ⟨g2, c2, rfl, r2, -, -, hs6, hg2⟩
            have R16 := Lib.hid (R15.out.kept hs6 (fun _ _ h => h)); have R2 := Lib.hid r2; have HX6 := Lib.hid (HX5.out.keep hs6); have HS6 := Lib.hid (HS5.out.trans hs6 (fun _ _ h => h))
            have hg16 : g1 < w6.heap.size := by have := hs6.size; omega
            have HP6 := Lib.hid (HPLC.out w6 HX6.out)
            have c6 : w6.cell? ⟨g1, i, none⟩ = some (.int .i64 y) := by simpa using R16.out.cell (j := i) (x := .int .i64 y) (by simp [HGL.out])
            clear r2 hs6 HAL5
            go_wp2_with fail
            refine HP6.out.mono ?_
            rintro e w7 ⟨rfl, hs7⟩
            have R17 := Lib.hid (R16.out.kept hs7 (fun _ _ h => h)); have R27 := Lib.hid (R2.out.kept hs7 (fun _ _ h => h)); have HX7 := Lib.hid (HX6.out.keep hs7); have HS7 := Lib.hid (HS6.out.trans hs7 (fun _ _ h => h))
            have hg17 : g1 < w7.heap.size := by have := hs7.size; omega
            have hg27 : g2 < w7.heap.size := by have := hs7.size; omega
            have h3 : ((z : Int) = 0 ∧ (k : Int) - 1 = (a : Int)) ∨ (¬ (z : Int) = 0 ∧ (z : Int) = (y : Int)) ∨ (¬ (z : Int) = 0 ∧ ¬ (z : Int) = (y : Int) ∧ (a : Int) + 1 < (k : Int) ∧ ¬ (k : Int) ≤ (a : Int) + 1 ∧ w7.cell? ⟨g2, a + 1, none⟩ = some (.int .i64 z)) := by
              by_cases e0 : (z : Int) = 0
              · exact Or.inl ⟨e0, by have := HF4.out e0; omega⟩
              · by_cases e1 : (z : Int) = (y : Int)
                · exact Or.inr (Or.inl ⟨e0, e1⟩)
                · have hz := HF5.out e0 e1
                  have hzl := (List.getElem?_eq_some_iff.1 hz).1
                  rw [HFL.out] at hzl
                  exact Or.inr (Or.inr ⟨e0, e1, by omega, by omega, by simpa using R27.out.cell (j := a + 1) (x := .int .i64 z) (by simp [hz])⟩)
            clear hs7 HP6 HAL2 HPLC HALL HMV c6 hg1 hg15 hg16 hg2 m1 m2 m3 m4 m5 m6 m7 m8
            rcases h3 with ⟨hz0, hae⟩ | ⟨hz0, hzy⟩ | ⟨hz0, hzy, hal, hal', c7⟩
            all_goals (
              go_wp2_with fail
              clear hz0
              go_loopg [17, 18] k (fun rr vj vm w8 => ∃ m : Nat, m + rr = k ∧ vm = .int .i64 m ∧ vj = .int .i64 (skip a (seen i m) : Nat) ∧ Same (fun _ => False) w7 w8)
              case atStart => exact ⟨0, by omega, rfl, by rw [seen_zero, skip_zero]; rfl, Same.refl _ _⟩
              case round =>
                obtain ⟨m, hm, rfl, rfl, hs8⟩ := hrel
                have hg18 : g1 < wr.heap.size := by have := hs8.size; omega
                have hg28 : g2 < wr.heap.size := by have := hs8.size; omega
                by_cases hlm : m < k
                · have hlm' : (m : Int) < (k : Int) := by omega
                  have hmb : (m : Int) < 32 := by omega
                  by_cases hmi : m = i
                  · have cm : wr.cell? ⟨g1, m, none⟩ = some (.int .i64 y) := by simpa using (R17.out.kept hs8 (fun _ _ h => h)).cell (j := m) (x := .int .i64 y) (by rw [hmi]; simp [HGL.out])
                    have hsn : skip a (seen i (m + 1)) = skip a (seen i m) := by rw [hmi, seen_same]
                    have HSN := Lib.hid hsn; have HS8 := Lib.hid hs8
                    generalize skip a (seen i m) = t0 at *
                    clear hmi hsn hs8
                    go_wp2_with fail
                    go_roundg (gk - 1)
                    case measure => omega
                    case rel => exact ⟨m + 1, by omega, by go_num, by rw [HSN.out], HS8.out⟩
                  · obtain ⟨q, hq, hqy⟩ := HNE.out m hlm hmi
                    obtain ⟨jj, c, hsk, hc1, hca, hMj, hnx, hjl⟩ := HSK.out m hlm hmi
                    rw [hq] at hMj
                    rw [HFL.out] at hjl
                    have cm : wr.cell? ⟨g1, m, none⟩ = some (.int .i64 q) := by simpa using (R17.out.kept hs8 (fun _ _ h => h)).cell (j := m) (x := .int .i64 q) (by simp [hq])
                    have cj : wr.cell? ⟨g2, jj, none⟩ = some (.int .i64 q) := by simpa using (R27.out.kept hs8 (fun _ _ h => h)).cell (j := jj) (x := .int .i64 q) (by simp [hMj])
                    have ca : wr.cell? ⟨g2, a, none⟩ = some (.int .i64 y) := by simpa using (R27.out.kept hs8 (fun _ _ h => h)).cell (j := a) (x := .int .i64 y) (by simp [HGM.out])
                    have HSN := Lib.hid hnx; have HS8 := Lib.hid hs8
                    have hqy' : ¬ q = (y : Int) := hqy
                    have hjj' : (jj : Int) < (k : Int) := by omega
                    have hjb' : (jj : Int) < 32 := by omega
                    generalize skip a (seen i m) = t0 at *
                    clear hmi hnx hs8 hq hMj hqy hjl
                    go_wp2_with fail
                    go_loopg [17] c (fun rr vi w9 => ∃ t : Nat, t + rr = jj ∧ rr ≤ c ∧ vi = .int .i64 t ∧ wr = w9)
                    case atStart => exact ⟨t0, hsk, Nat.le_refl _, rfl, rfl⟩
                    case round =>
                      obtain ⟨t, ht, hrc, rfl, rfl⟩ := hrel
                      by_cases hg0 : gk = 0
                      · obtain rfl : t = jj := by omega
                        clear hsk hca hc1 hrc hg0
                        go_wp2_with fail
                        go_quiet (fail)
                        go_wp2_with fail
                        go_roundg (k - m - 1)
                        case measure => omega
                        case rel => exact ⟨m + 1, by omega, by go_num, by rw [HSN.out]; go_num, HS8.out.drewN _⟩
                      · have hta : t = a := by have := hca (by omega); omega
                        subst hta
                        clear hsk hca
                        go_wp2_with fail
                        go_roundg (gk - 1)
                        case measure => omega
                        case rel => exact ⟨t + 1, by omega, by omega, by go_num, rfl⟩
                · have hlm' : ¬ (m : Int) < (k : Int) := by omega
                  have HS8 := Lib.hid hs8
                  clear hs8
                  go_wp2_with fail
                  go_roundg (bs.length - j - 1)
                  case measure => omega
                  case rel => exact ⟨j + 1, M, by omega, by go_num, by rw [show k + 2 * (j + 1) = k + 2 * j + 2 by omega]; exact HX7.out.keep HS8.out, HFL.out, HF3.out, HS7.out.trans HS8.out (fun _ _ h => h)⟩)
          · have hl' : ¬ (j : Int) < (bs.length : Int) := by omega
            have HS := Lib.hid hs
            clear hx hs hlen hmem
            go_wp2_with fail
            go_ret
            exact ⟨rfl, HS.out⟩

end Go.Proofs.Ytelgbigpfiohfaa
