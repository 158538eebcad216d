/-
  HookNests: user code that calls user code: each fault is caught where it was called. Conditions: none.
-/
import Derived.Test.YtcbapmkipcffgaaDoorNest
import Derived.Laws.MakeOwn
namespace Go.Proofs.YtcbapmkipcffgaaDoor
open Go.RowKit Go.Extern.Stop Go.Stop Go.Extern Go.Lib

theorem Same.to_below {w w' : World} (h : Same (fun _ => False) w w') : Below w.heap.size w w' := ⟨h.os, h.tape, h.output, h.size, fun k hk => h.block k hk id⟩

theorem nest_all (N k : Nat) (hN : N ≤ 100) (hk : k < N) : ∀ m, m ≤ N → NestDoes N k m
  | 0, _ => nest_zero N k hN
  | m + 1, hm => nest_succ N k m hN hm hk (nest_all N k hN hk m (by omega))

theorem caughtL_get (N k : Nat) (i : Nat) (hi : i < N) : ∀ (m : Nat) (xs : List Int), m ≤ N → xs.length = N → (caughtL N k m xs)[i]? = if N - m ≤ i then some (if i = k then 900 + (k : Int) else 0) else xs[i]?
  | 0, xs, _, _ => by rw [if_neg (by omega)]; rfl
  | m + 1, xs, hm, hl => by
    have ih := caughtL_get N k i hi m xs (by omega) hl
    have hlen : (caughtL N k m xs).length = N := by rw [caughtL_length, hl]
    rw [caughtL, List.getElem?_set]
    by_cases he : N - (m + 1) = i
    · rw [if_pos he, if_pos (show N - (m + 1) < (caughtL N k m xs).length by omega), if_pos (show N - (m + 1) ≤ i by omega), he]
    · rw [if_neg he, ih]
      by_cases h2 : N - m ≤ i
      · rw [if_pos h2, if_pos (show N - (m + 1) ≤ i by omega)]
      · rw [if_neg h2, if_neg (show ¬ N - (m + 1) ≤ i by omega)]

theorem make_ints (N : Nat) (h : N ≤ 100) (w : World) : (Instr.makeSlice 23 (.int .i64 N) (.int .i64 N)).run Tryd.prog w = .ok (.slice (some ⟨w.heap.size, 0, none⟩) N N) (w.alloc (.cells (Array.replicate N (.int .i64 0)) 3)) := by
  obtain ⟨i, hi, hz, hs, hb⟩ : ∃ i, Tryd.prog.info? 3 = some i ∧ i.zero = some (.int .i64 0) ∧ i.size = 1 ∧ i.bytes = 8 := by
    have h : (Tryd.prog.info? 3).map (fun i => (i.zero, i.size, i.bytes)) = some (some (.int .i64 0), 1, 8) := by kernel_rfl
    obtain ⟨i, hi, he⟩ := Option.map_eq_some_iff.1 h
    simp only [Prod.mk.injEq] at he
    exact ⟨i, hi, he.1, he.2.1, he.2.2⟩
  have := run_make (P := Tryd.prog) (w := w) 23 3 i (.int .i64 0) Tryd.underlying23 hi hz .i64 .i64 N N (by omega) (by omega) (by rw [hb]; omega) (by omega)
  rw [this, hs]
  have hm : madeCells (Value.int .i64 0).cells ((N : Int).toNat * 1) = Array.replicate N (.int .i64 0) := by
    apply Array.ext
    · simp [madeCells]
    · intro j h1 h2
      simp [madeCells, Value.cells, Nat.mod_one]
  rw [hm]
  rfl

set_option maxRecDepth 1000000 in
set_option maxHeartbeats 4000000 in
theorem hookNests_any {W : World} (D A : Nat) (hD : D ≤ 255) (hA : A ≤ 255) (hg : Handle W) :
    Calls Tryd.prog 3 #[.int .u8 D, .int .u8 A] W fun e w' => e = .returned (.bool true) ∧ Below W.heap.size W w' := by
  have HG := Lib.hid hg; clear hg
  obtain ⟨N, hN⟩ : ∃ N, N = D % 10 + 1 := ⟨_, rfl⟩
  obtain ⟨k, hk⟩ : ∃ k, k = A % N := ⟨_, rfl⟩
  have hkN : k < N := by rw [hk]; exact Nat.mod_lt _ (by omega)
  have hN1 : N ≤ 10 := by omega
  have hN0 : 1 ≤ N := by omega
  have hmk := make_ints N (by omega)
  have e1 : (D : Int) % 10 + 1 = (N : Int) := by omega
  have e2 : (A : Int) % (N : Int) = (k : Int) := by rw [hk]; rfl
  have HK := Lib.hid hk; have HN := Lib.hid hN
  clear hk hN
  go_enter Tryd.func3, Tryd.ntmps3
  go_wp2_with fail
  refine (known_any HG.out).mono ?_
  rintro e w1 ⟨rfl, hs1⟩
  have HS1 := Lib.hid hs1; have HG1 := Lib.hid (HG.out.same hs1 id); clear hs1
  go_wp2_with fail
  have hal := (Same.refl (fun _ => False) w1).alloc (.cells (Array.replicate N (.int .i64 0)) 3)
  have hint : Ints (w1.alloc (.cells (Array.replicate N (.int .i64 0)) 3)) w1.heap.size (List.replicate N 0) := by
    unfold Ints
    rw [heap_alloc_new]
    simp
  have hnest := nest_all N k (by omega) hkN N (Nat.le_refl _) _ w1.heap.size N (List.replicate N 0) hint (by simp) (HG1.out.same hal id) (by have := HG1.out.lt; omega)
  have HNE := Lib.hid hnest; have HAL := Lib.hid (HS1.out.trans hal (fun _ _ h => h)); have HGA := Lib.hid (HG1.out.same hal id)
  clear hal hint hnest
  refine HNE.out.mono ?_
  rintro e w2 ⟨hsay, hs2, hx⟩
  have hget : ∀ i, i < N → (caughtL N k N (List.replicate N 0))[i]? = some (if i = k then 900 + (k : Int) else 0) := fun i hi => by rw [caughtL_get N k i hi N _ (Nat.le_refl _) (by simp), if_pos (by omega)]
  have hlen : (caughtL N k N (List.replicate N 0)).length = N := by rw [caughtL_length]; simp
  have hsW := HAL.out.trans hs2 (fun i hi h => by have := HS1.out.size; omega)
  have HX := Lib.hid hx; have HSW := Lib.hid hsW; have HG2 := Lib.hid (HGA.out.same hs2 (by have := HG1.out.lt; omega)); have HGET := Lib.hid hget; have HLEN := Lib.hid hlen
  clear hs2 hx hget hlen hsW HNE HAL HGA HG1 HS1
  unfold NestSays at hsay
  obtain ⟨v, rfl, hv⟩ : ∃ v, e = .returned v ∧ (v = .nilIface ∨ (k = 0 ∧ ∃ p, v = faultV p ∧ w2.heap[p]? = some (faultObj ⟨#[120]⟩ .nilIface (.iface 3 (.int .i64 (900 + (k : Int))))))) := by
    by_cases hk0 : N ≠ 0 ∧ N - N = k
    · rw [if_pos hk0] at hsay
      obtain ⟨p, rfl, ho⟩ := hsay
      exact ⟨_, rfl, Or.inr ⟨by omega, p, rfl, ho⟩⟩
    · rw [if_neg hk0] at hsay
      exact ⟨_, hsay, Or.inl rfl⟩
  have HV := Lib.hid hv
  clear hsay hv hmk
  go_wp2_with fail
  go_loopg [9] N (fun r i wr => ∃ j : Nat, j + r = N ∧ i = .int .i64 (j : Int) ∧ wr = w2)
  case atStart => exact ⟨0, by omega, rfl, rfl⟩
  case round =>
    obtain ⟨j, hj, rfl, rfl⟩ := hrel
    by_cases h0 : gk = 0
    · subst h0
      obtain rfl : j = N := by omega
      clear hj
      rcases HV.out with rfl | ⟨hk0, p, rfl, ho⟩
      · clear HV HK HN e1
        go_wp2_with fail
        go_ret
        exact ⟨rfl, HSW.out.to_below⟩
      · subst hk0
        have HST := Lib.hid (struck_int ho HG2.out)
        clear HV HK HN e1 ho
        go_wp2_with fail
        refine HST.out.mono ?_
        rintro e w3 ⟨rfl, hs3⟩
        have HS3 := Lib.hid (HSW.out.trans hs3 (fun _ _ h => h)); clear hs3
        go_wp2_with fail
        go_ret
        exact ⟨rfl, HS3.out.to_below⟩
    · obtain ⟨g, rfl⟩ : ∃ g, gk = g + 1 := ⟨gk - 1, by omega⟩
      have hjN : j < N := by omega
      have hc := HX.out.cell j (by rw [HLEN.out]; exact hjN)
      have hg := HGET.out j hjN
      rw [List.getElem?_eq_getElem (by rw [HLEN.out]; exact hjN), Option.some.injEq] at hg
      rw [hg] at hc
      have HJ := Lib.hid hj
      clear hj h0 hg HV HX
      by_cases hjk : j = k
      · rw [if_pos hjk] at hc
        subst hjk
        go_wp2_with fail
        go_roundg g
        case measure => omega
        case rel => exact ⟨j + 1, by have := HJ.out; omega, by go_num, rfl⟩
      · rw [if_neg hjk] at hc
        have hjk2 : ((j : Int) == (k : Int)) = false := by simp; omega
        clear hjk
        go_wp2_with fail
        go_roundg g
        case measure => omega
        case rel => exact ⟨j + 1, by have := HJ.out; omega, by go_num, rfl⟩

end Go.Proofs.YtcbapmkipcffgaaDoor
