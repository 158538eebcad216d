/-
  OrdRanks: the walk: it answers true and turns nothing that was there. Condition: the variable that errors.As reads holds the type of error.
-/
import Derived.Test.YtgfmemggfbgjeaaGreatDoorM40
import Derived.Test.YtgfmemggfbgjeaaGreatDoorM44
import Derived.Test.YtgfmemggfbgjeaaGreatDoorM45
import Derived.BigQuiet
namespace Go.Proofs.YtgfmemggfbgjeaaGreatDoor
open Go.RowKit Go.Extern.Stop Go.Stop Go.Extern Go.Lib
set_option maxRecDepth 1000000

/-- How many of the first k are at most v; lower; equal. -/
def cLe (ls : List Int) (v : Int) (k : Nat) : Nat := (ls.take k).countP (fun a => decide (a ≤ v))
def cLt (ls : List Int) (v : Int) (k : Nat) : Nat := (ls.take k).countP (fun a => decide (a < v))
def cEq (ls : List Int) (v : Int) (k : Nat) : Nat := (ls.take k).countP (fun a => decide (a = v))

theorem count_succ {ls : List Int} {k : Nat} (hk : k < ls.length) (p : Int → Bool) : (ls.take (k + 1)).countP p = (ls.take k).countP p + if p ls[k] then 1 else 0 := by
  rw [List.take_succ_eq_append_getElem hk, List.countP_append, List.countP_singleton]

theorem cLe_yes {ls : List Int} {v : Int} {k : Nat} (hk : k < ls.length) (h : ls[k] ≤ v) : cLe ls v (k + 1) = cLe ls v k + 1 := by rw [cLe, count_succ hk, cLe, if_pos (by simpa using h)]
theorem cLe_no {ls : List Int} {v : Int} {k : Nat} (hk : k < ls.length) (h : ¬ ls[k] ≤ v) : cLe ls v (k + 1) = cLe ls v k := by rw [cLe, count_succ hk, cLe, if_neg (by simpa using h)]; rfl
theorem cLt_yes {ls : List Int} {v : Int} {k : Nat} (hk : k < ls.length) (h : ls[k] < v) : cLt ls v (k + 1) = cLt ls v k + 1 := by rw [cLt, count_succ hk, cLt, if_pos (by simpa using h)]
theorem cLt_no {ls : List Int} {v : Int} {k : Nat} (hk : k < ls.length) (h : ¬ ls[k] < v) : cLt ls v (k + 1) = cLt ls v k := by rw [cLt, count_succ hk, cLt, if_neg (by simpa using h)]; rfl
theorem cEq_yes {ls : List Int} {v : Int} {k : Nat} (hk : k < ls.length) (h : ls[k] = v) : cEq ls v (k + 1) = cEq ls v k + 1 := by rw [cEq, count_succ hk, cEq, if_pos (by simpa using h)]
theorem cEq_no {ls : List Int} {v : Int} {k : Nat} (hk : k < ls.length) (h : ¬ ls[k] = v) : cEq ls v (k + 1) = cEq ls v k := by rw [cEq, count_succ hk, cEq, if_neg (by simpa using h)]; rfl

theorem cLe_le (ls : List Int) (v : Int) (k : Nat) : cLe ls v k ≤ k := Nat.le_trans List.countP_le_length (by rw [List.length_take]; omega)
theorem cLt_le (ls : List Int) (v : Int) (k : Nat) : cLt ls v k ≤ k := Nat.le_trans List.countP_le_length (by rw [List.length_take]; omega)
theorem cEq_le (ls : List Int) (v : Int) (k : Nat) : cEq ls v k ≤ k := Nat.le_trans List.countP_le_length (by rw [List.length_take]; omega)

theorem ReadU.up {kd : IntKind} {w w' : World} {v : Value} {l : List Int} (h : ReadU kd w v l) (hs : Same (fun i => w.heap.size ≤ i) w w') : ReadU kd w' v l := by
  obtain ⟨ao, cap, rfl, hc⟩ := h
  refine ⟨ao, cap, rfl, fun j x hj => ?_⟩
  obtain ⟨b, off, rfl, hb, e0⟩ := hc j x hj
  exact ⟨b, off, rfl, Nat.lt_of_lt_of_le hb hs.size, (World.cell?_of_block (a := ⟨b, _, none⟩) (hs.block b hb (by omega))).trans e0⟩

theorem ranks_new {w0 w1 w2 w3 : World} {M x t bm bn : Nat} (h01 : Same (fun _ => False) w0 w1) (hM : M = w1.heap.size) (h12 : Same (fun _ => False) (w1.alloc (meterObj 0 0 0 0)) w2) (h23 : Same (fun _ => False) w2 w3) {n : Int} {uq : Bool} (ho : OxAt w3 (fun k => w2.heap.size ≤ k) x t bm bn uq (mtp M) n 0 [] 0) (hm : MAt w3 (mtp M) 0 0 0 0) : OrI w0 w2.heap.size M x t bm bn uq n 0 0 [] 0 w3 := by
  have e1 := h01.size; have e2 := h12.size
  have e3 : (w1.alloc (meterObj 0 0 0 0)).heap.size = w1.heap.size + 1 := by simp
  have ha : Same (fun _ => False) w1 (w1.alloc (meterObj 0 0 0 0)) := (Same.refl _ w1).alloc _
  exact ⟨(((h01.trans ha (fun _ _ h => h)).trans h12 (fun _ _ h => h)).trans h23 (fun _ _ h => h)).weaken (fun _ _ h => h.elim), by omega, by omega, ⟨0, by omega, ho⟩, 0, hm⟩

set_option maxHeartbeats 32000000 in
theorem ordRanks_any {w : World} {v : Value} {ls : List Int} (hg : Handle w) (hv : ReadU .i8 w v ls) (hls : ∀ b ∈ ls, -128 ≤ b ∧ b ≤ 127) :
    Calls Tryz.prog 4 #[v] w fun e w' => e = .returned (.bool true) ∧ Same (fun _ => False) w w' := by
  have HK := Lib.hid (known_any hg)
  have hcap : ∃ ao cap, v = .slice ao ls.length cap := by
    obtain ⟨ao, cap, rfl, _⟩ := hv
    exact ⟨ao, cap, rfl⟩
  obtain ⟨ao, cap, rfl⟩ := hcap
  have HV := Lib.hid hv; have HLS := Lib.hid hls
  clear hv hls hg
  by_cases h60 : (ls.length : Int) > 60
  · go_enter Tryz.func4, Tryz.ntmps4
    go_wp2_with fail
    refine HK.out.mono ?_
    rintro e w1 ⟨rfl, hs1⟩
    have HS1 := Lib.hid hs1
    clear hs1
    go_wp2_with fail
    go_ret
    exact ⟨rfl, HS1.out⟩
  · have h60' : ls.length ≤ 60 := by omega
    go_enter Tryz.func4, Tryz.ntmps4
    go_wp2_with fail
    refine HK.out.mono ?_
    rintro e w1 ⟨rfl, hs1⟩
    have HH := Lib.hid (hooks_any (mp := mtp w1.heap.size) (Or.inr ⟨_, rfl⟩) (w1.alloc (meterObj 0 0 0 0)))
    have HM1 := Lib.hid (heap_alloc_new w1 (meterObj 0 0 0 0))
    have HS1 := Lib.hid hs1
    clear hs1
    go_wp2_with fail
    refine HH.out.mono ?_
    rintro r w2 ⟨hv, rfl, hs2, hh⟩
    obtain ⟨ve, g, cap2, bm, bn, rfl, hcap, c0, gl, obm, obn⟩ := hooks_cmp hh (n := 2) (by omega)
    replace obn : One w2 bn (.int .i64 2) 3 := obn
    have hm2 : MAt w2 (mtp w1.heap.size) 0 0 0 0 := Or.inr ⟨_, rfl, hs2.obj HM1.out id⟩
    have HN := Lib.hid (new_calm (uq := false) obm obn hm2 ⟨by omega, by omega⟩ (Or.inr rfl))
    have HS2 := Lib.hid hs2
    have hfd : ∀ w : World, (Instr.field 31 (.agg #[ve, .slice (some ⟨g, 0, none⟩) 3 cap2]) 1).run Tryz.prog w = .ok (.slice (some ⟨g, 0, none⟩) 3 cap2) w := fun _ => by kernel_rfl
    clear hs2 hh obm obn hm2
    go_wp2_with fail
    refine HN.out.mono ?_
    rintro r w3 ⟨x, t, rfl, hO3, hm3, hs3⟩
    obtain ⟨M, hM⟩ : ∃ M, M = w1.heap.size := ⟨_, rfl⟩
    rw [← hM] at hO3 hm3
    have HI := Lib.hid (ranks_new HS1.out hM HS2.out hs3 hO3 hm3)
    generalize w2.heap.size = PB at *
    clear hO3 hs3 c0 gl hm3 hM
    go_wp2_with fail
    go_loopg [5] ls.length (fun rr vi wr => ∃ (j : Nat) (L : List En), j + rr = ls.length ∧ vi = .int .i64 j ∧ Nums (ls.take j) L ∧ OrI w PB M x t bm bn false 2 0 0 L j wr)
    case atStart => exact ⟨0, [], by omega, rfl, Nums.nil, HI.out⟩
    case round =>
      obtain ⟨j, L, hj, rfl, hN, hI⟩ := hrel
      by_cases hlast : j < ls.length
      · have hl' : (j : Int) < (ls.length : Int) := by omega
        have hj60 : j < 60 := by omega
        have ra := HV.out.up hI.same
        obtain ⟨ab, ao2, rfl, hla, hxx⟩ := ra.byte hlast
        have ha := HLS.out ls[j] (List.getElem_mem _)
        have HRA := Lib.hid ra
        obtain ⟨a, hae⟩ : ∃ a, a = ls[j] := ⟨_, rfl⟩
        rw [← hae] at hxx ha
        have HAE := Lib.hid hae; have HNN := Lib.hid hN; have HII := Lib.hid hI
        clear hN hI ra hae
        go_wp2_with fail
        go_loopg [6, 7] j (fun rr v6 v7 wq => ∃ (k : Nat), k + rr = j ∧ v6 = .int .i64 (cLe ls a k : Nat) ∧ v7 = .int .i64 k ∧ Same (fun _ => False) wr wq)
        case atStart => exact ⟨0, by omega, rfl, rfl, Same.refl _ _⟩
        case round =>
          obtain ⟨k, hk, rfl, rfl, hsq⟩ := hrel
          have HSQ := Lib.hid hsq
          by_cases hk2 : k < j
          · have hk2' : (k : Int) < (j : Int) := by omega
            have hkl : k < ls.length := by omega
            obtain ⟨_, _, he, hlb, hyy⟩ := (HRA.out.kept hsq).byte hkl
            cases he
            have hxq := (World.cell?_of_block (a := ⟨ab, ao2 + j, none⟩) (hsq.block ab hla id)).trans hxx
            clear hsq
            have hcb := cLe_le ls a k
            by_cases hle : ls[k] ≤ a
            · have HC := Lib.hid (cLe_yes hkl hle)
              generalize ls[k] = b at *
              go_wp2_with fail
              go_quiet (fail)
              go_wp2_with fail
              go_roundg (gk - 1)
              case measure => omega
              case rel => exact ⟨k + 1, by omega, by rw [HC.out]; go_num, by go_num, HSQ.out.drewN _⟩
            · have HC := Lib.hid (cLe_no hkl hle)
              generalize ls[k] = b at *
              go_wp2_with fail
              go_quiet (fail)
              go_wp2_with fail
              go_roundg (gk - 1)
              case measure => omega
              case rel => exact ⟨k + 1, by omega, by rw [HC.out], by go_num, HSQ.out.drewN _⟩
          · have hk2' : ¬ (k : Int) < (j : Int) := by omega
            obtain rfl : j = k := by omega
            have hwa : IntKind.i64.wrap a = a := by rw [IntKind.wrap_i64]; omega
            have hxq := (World.cell?_of_block (a := ⟨ab, ao2 + j, none⟩) (hsq.block ab hla id)).trans hxx
            have hlb := Nat.lt_of_lt_of_le hla hsq.size
            have HIQ := Lib.hid (HII.out.kept hsq)
            have HV1 := Lib.hid (num_any (w := wr) (m := a) (by omega) (by omega))
            have HJ := Lib.hid hj
            clear hk hk2 hk2' hj hsq
            go_wp2_with fail
            refine HV1.out.mono ?_
            rintro r w5 ⟨v1, rfl, ho5, hk5, hs5⟩
            obtain ⟨cc, hmm⟩ := HIQ.out.mm
            have HINS := Lib.hid (show Calls Tryz.prog 12 #[.pointer (some ⟨x, 0, none⟩), v1, .int .i64 ((j : Int) + 1)] w5 (fun r w' => r = .returned (.tuple #[.int .i64 (cLe ls a j : Nat), .nilIface]) ∧ ∃ L', Nums (ls.take j ++ [a]) L' ∧ OrI w PB M x t bm bn false 2 0 0 L' (j + 1) w') from nums_insert (HIQ.out.kept hs5) HNN.out (hk5 _ _ _ _ _ hmm) (by rw [List.length_take]; omega) (by rw [List.length_take]; omega) (by omega))
            obtain ⟨v1o, v1c, rfl⟩ := readV_len (hk5 _ _ _ _ _ hmm).rd
            clear ho5 hk5 hs5 hmm
            go_wp2_with fail
            refine HINS.out.mono ?_
            rintro r w6 ⟨rfl, L', hN', hI'⟩
            have HN' := Lib.hid hN'; have HI' := Lib.hid hI'
            clear hN' hI'
            go_wp2_with fail
            go_roundg (ls.length - (j + 1))
            case measure => have := HJ.out; omega
            case rel => exact ⟨j + 1, L', by omega, by go_num, by rw [List.take_succ_eq_append_getElem hlast, ← HAE.out]; exact HN'.out, HI'.out⟩
      · have hl' : ¬ (j : Int) < (ls.length : Int) := by omega
        obtain rfl : ls.length = j := by omega
        rw [List.take_length] at hN
        have HN0 := Lib.hid hN; have HI0 := Lib.hid hI
        clear hN hI hj hlast
        go_wp2_with fail
        go_loopg [10] ls.length (fun rr vi wr => ∃ (j : Nat), j + rr = ls.length ∧ vi = .int .i64 j ∧ OrI w PB M x t bm bn false 2 0 0 L ls.length wr)
        case atStart => exact ⟨0, by omega, rfl, HI0.out⟩
        case round =>
          obtain ⟨j, hj, rfl, hI⟩ := hrel
          by_cases hlast : j < ls.length
          · have hl2 : (j : Int) < (ls.length : Int) := by omega
            have hj60 : j < 60 := by omega
            have ra := HV.out.up hI.same
            obtain ⟨ab, ao2, rfl, hla, hxx⟩ := ra.byte hlast
            have ha := HLS.out ls[j] (List.getElem_mem _)
            have HRA := Lib.hid ra
            obtain ⟨a, hae⟩ : ∃ a, a = ls[j] := ⟨_, rfl⟩
            rw [← hae] at hxx ha
            have HAE := Lib.hid hae; have HII := Lib.hid hI
            clear hI ra hae
            go_wp2_with fail
            go_loopg [11, 12, 13, 14] ls.length (fun rr v1 v2 v3 v4 wq => ∃ (k : Nat), k + rr = ls.length ∧ v1 = .int .i64 (cLt ls a k : Nat) ∧ v2 = .int .i64 (cEq ls a k : Nat) ∧ v3 = .int .i64 (cEq ls a (min k j) : Nat) ∧ v4 = .int .i64 k ∧ Same (fun _ => False) wr wq)
            case atStart => exact ⟨0, by omega, rfl, rfl, by rw [Nat.zero_min]; rfl, rfl, Same.refl _ _⟩
            case round =>
              obtain ⟨k, hk, rfl, rfl, rfl, rfl, hsq⟩ := hrel
              have HSQ := Lib.hid hsq
              by_cases hkl : k < ls.length
              · have hk2' : (k : Int) < (ls.length : Int) := by omega
                obtain ⟨_, _, he, hlb, hyy⟩ := (HRA.out.kept hsq).byte hkl
                cases he
                have hxq := (World.cell?_of_block (a := ⟨ab, ao2 + j, none⟩) (hsq.block ab hla id)).trans hxx
                have hc1 := cLt_le ls a k
                have hc2 := cEq_le ls a k
                have hc3 := cEq_le ls a (min k j)
                clear hsq
                by_cases hlt : ls[k] < a
                · have hne : ¬ ls[k] = a := by omega
                  have hm : cEq ls a (min (k + 1) j) = cEq ls a (min k j) := by
                    by_cases hkj : k < j
                    · rw [Nat.min_eq_left (by omega), Nat.min_eq_left (by omega)]; exact cEq_no hkl hne
                    · rw [Nat.min_eq_right (by omega), Nat.min_eq_right (by omega)]
                  have HC1 := Lib.hid (cLt_yes hkl hlt); have HC2 := Lib.hid (cEq_no hkl hne); have HC3 := Lib.hid hm
                  clear hm
                  generalize ls[k] = b at *
                  go_wp2_with fail
                  go_quiet (fail)
                  go_wp2_with fail
                  go_quiet (fail)
                  go_wp2_with fail
                  go_roundg (gk - 1)
                  case measure => omega
                  case rel => exact ⟨k + 1, by omega, by rw [HC1.out]; go_num, by rw [HC2.out], by rw [HC3.out], by go_num, HSQ.out.drewN _⟩
                · by_cases heq : ls[k] = a
                  · by_cases hkj : k < j
                    · have hkj' : (k : Int) < (j : Int) := by omega
                      have hm : cEq ls a (min (k + 1) j) = cEq ls a (min k j) + 1 := by
                        rw [Nat.min_eq_left (by omega), Nat.min_eq_left (by omega)]; exact cEq_yes hkl heq
                      have HC1 := Lib.hid (cLt_no hkl hlt); have HC2 := Lib.hid (cEq_yes hkl heq); have HC3 := Lib.hid hm
                      clear hm
                      generalize ls[k] = b at *
                      go_wp2_with fail
                      go_quiet (fail)
                      go_wp2_with fail
                      go_quiet (fail)
                      go_wp2_with fail
                      go_roundg (gk - 1)
                      case measure => omega
                      case rel => exact ⟨k + 1, by omega, by rw [HC1.out], by rw [HC2.out]; go_num, by rw [HC3.out]; go_num, by go_num, HSQ.out.drewN _⟩
                    · have hkj' : ¬ (k : Int) < (j : Int) := by omega
                      have hm : cEq ls a (min (k + 1) j) = cEq ls a (min k j) := by
                        rw [Nat.min_eq_right (by omega), Nat.min_eq_right (by omega)]
                      have HC1 := Lib.hid (cLt_no hkl hlt); have HC2 := Lib.hid (cEq_yes hkl heq); have HC3 := Lib.hid hm
                      clear hm
                      generalize ls[k] = b at *
                      go_wp2_with fail
                      go_quiet (fail)
                      go_wp2_with fail
                      go_quiet (fail)
                      go_wp2_with fail
                      go_roundg (gk - 1)
                      case measure => omega
                      case rel => exact ⟨k + 1, by omega, by rw [HC1.out], by rw [HC2.out]; go_num, by rw [HC3.out], by go_num, HSQ.out.drewN _⟩
                  · have hm : cEq ls a (min (k + 1) j) = cEq ls a (min k j) := by
                      by_cases hkj : k < j
                      · rw [Nat.min_eq_left (by omega), Nat.min_eq_left (by omega)]; exact cEq_no hkl heq
                      · rw [Nat.min_eq_right (by omega), Nat.min_eq_right (by omega)]
                    have HC1 := Lib.hid (cLt_no hkl hlt); have HC2 := Lib.hid (cEq_no hkl heq); have HC3 := Lib.hid hm
                    clear hm
                    generalize ls[k] = b at *
                    go_wp2_with fail
                    go_quiet (fail)
                    go_wp2_with fail
                    go_quiet (fail)
                    go_wp2_with fail
                    go_roundg (gk - 1)
                    case measure => omega
                    case rel => exact ⟨k + 1, by omega, by rw [HC1.out], by rw [HC2.out], by rw [HC3.out], by go_num, HSQ.out.drewN _⟩
              · have hk2' : ¬ (k : Int) < (ls.length : Int) := by omega
                obtain rfl : k = ls.length := by omega
                have hxq := (World.cell?_of_block (a := ⟨ab, ao2 + j, none⟩) (hsq.block ab hla id)).trans hxx
                have hlb := Nat.lt_of_lt_of_le hla hsq.size
                have hwa : IntKind.i64.wrap a = a := by rw [IntKind.wrap_i64]; omega
                have HIQ := Lib.hid (HII.out.kept hsq)
                have hmn : min ls.length j = j := Nat.min_eq_right (by omega)
                rw [hmn]
                have HV1 := Lib.hid (num_any (w := wr) (m := a) (by omega) (by omega))
                have HQ := Lib.hid (HRA.out.kept hsq)
                have HJ := Lib.hid hj
                clear hk hkl hk2' hj hsq hmn
                go_wp2_with fail
                refine HV1.out.mono ?_
                rintro r w5 ⟨v1, rfl, ho5, hk5, hs5⟩
                have HFD := Lib.hid (show ∀ (W : World), OrI w PB M x t bm bn false 2 0 0 L ls.length W → KeyOk W (mtp M) v1 [numV a] → Calls Tryz.prog 16 #[.pointer (some ⟨x, 0, none⟩), v1] W (fun r w' => r = .returned (.tuple #[.int .i64 (cLt ls a ls.length : Nat), .int .i64 ((cLt ls a ls.length : Nat) + (cEq ls a ls.length : Nat) : Int), .nilIface]) ∧ OrI w PB M x t bm bn false 2 0 0 L ls.length w') from fun W h1 h2 => by
                  have := nums_find h1 HN0.out h2 (by omega)
                  unfold cLt cEq
                  rw [List.take_length]
                  exact this)
                have HRK := Lib.hid (show ∀ (W : World) (v2 : Value), OrI w PB M x t bm bn false 2 0 0 L ls.length W → KeyOk W (mtp M) v2 [numV a] → Calls Tryz.prog 17 #[.pointer (some ⟨x, 0, none⟩), v2, .int .i64 ((j : Int) + 1)] W (fun r w' => r = .returned (.tuple #[.int .i64 ((cLt ls a ls.length : Nat) + (cEq ls a j : Nat) : Int), .bool true, .nilIface]) ∧ OrI w PB M x t bm bn false 2 0 0 L ls.length w' ∧ ∃ y, L[cLt ls a ls.length + cEq ls a j]? = some y ∧ y.id = (j : Int) + 1) from fun W v2 h1 h2 => by
                  have := nums_rank (j := j) (rid := (j : Int) + 1) h1 HN0.out h2 (by omega) hlast HAE.out.symm rfl
                  unfold cLt cEq
                  rw [List.take_length]
                  exact this)
                obtain ⟨cc, hmm⟩ := HIQ.out.mm
                have HFD2 := Lib.hid (HFD.out _ (HIQ.out.kept hs5) (hk5 _ _ _ _ _ hmm))
                obtain ⟨v1o, v1c, rfl⟩ := readV_len (hk5 _ _ _ _ _ hmm).rd
                have hx5 := (World.cell?_of_block (a := ⟨ab, ao2 + j, none⟩) (hs5.block ab hlb id)).trans hxq
                have HQ5 := Lib.hid (HQ.out.kept hs5)
                have hl5 := Nat.lt_of_lt_of_le hlb hs5.size
                have hb1 := cLt_le ls a ls.length; have hb2 := cEq_le ls a ls.length; have hb3 := cEq_le ls a j
                clear ho5 hk5 hs5 hmm hxq hlb
                go_wp2_with fail
                refine HFD2.out.mono ?_
                rintro r w6 ⟨rfl, hI6⟩
                obtain ⟨_, _, he, hl6, hx6⟩ := (HV.out.up hI6.same).byte hlast
                cases he
                rw [← HAE.out] at hx6
                have HV2 := Lib.hid (num_any (w := w6) (m := a) (by omega) (by omega))
                have HI6 := Lib.hid hI6
                clear hI6 hx5 hl5
                go_wp2_with fail
                refine HV2.out.mono ?_
                rintro r w7 ⟨v2, rfl, ho7, hk7, hs7⟩
                obtain ⟨cc, hmm⟩ := HI6.out.mm
                have HRK2 := Lib.hid (HRK.out _ _ (HI6.out.kept hs7) (hk7 _ _ _ _ _ hmm))
                obtain ⟨v2o, v2c, rfl⟩ := readV_len (hk7 _ _ _ _ _ hmm).rd
                clear ho7 hk7 hs7 hmm hx6 hl6
                go_wp2_with fail
                refine HRK2.out.mono ?_
                rintro r w8 ⟨rfl, hI8, y, hy, hyid⟩
                have HAT := Lib.hid (show Calls Tryz.prog 18 #[.pointer (some ⟨x, 0, none⟩), .int .i64 ((cLt ls a ls.length : Nat) + (cEq ls a j : Nat) : Int)] w8 _ from nums_at hI8 (by rw [HN0.out.length]; omega) hy)
                have HYI := Lib.hid hyid
                clear hI8 hy hyid
                go_wp2_with fail
                refine HAT.out.mono ?_
                rintro r w9 ⟨⟨⟨ao', n', cap', id', kv'⟩, rfl, hid'⟩, hI9⟩
                obtain rfl : id' = (j : Int) + 1 := hid'.trans HYI.out
                have HI9 := Lib.hid (hI9.kept ((Same.refl (fun _ => False) w9).alloc (entObj (⟨ao', n', cap', (j : Int) + 1, kv'⟩ : En))))
                obtain ⟨q0, q1, _, _⟩ := ent_cells (heap_alloc_new w9 (entObj (⟨ao', n', cap', (j : Int) + 1, kv'⟩ : En)))
                have hql := lt_of_block (heap_alloc_new w9 (entObj (⟨ao', n', cap', (j : Int) + 1, kv'⟩ : En)))
                clear hid' hI9
                go_wp2_with fail
                go_roundg (ls.length - (j + 1))
                case measure => have := HJ.out; omega
                case rel => exact ⟨j + 1, by omega, by go_num, HI9.out⟩
          · have hl2 : ¬ (j : Int) < (ls.length : Int) := by omega
            obtain rfl : ls.length = j := by omega
            have hsF : Same (fun _ => False) w wr := hI.same.weaken (fun k hk h => by omega)
            have HSF := Lib.hid hsF
            clear hI hsF hj hlast
            go_wp2_with fail
            go_ret
            exact ⟨rfl, HSF.out⟩

end Go.Proofs.YtgfmemggfbgjeaaGreatDoor
