/-
  CodeCuts: bytes that are cut off within a value are none. Conditions: none.
-/
import Derived.Test.YtmdkfbbagjcboaaCodeOpen
import Derived.Test.YtmdkfbbagjcboaaCodeCutsM
import Derived.Test.YtmdkfbbagjcboaaCodeTexts
namespace Go.Proofs.Ytmdkfbbagjcboaa
open Go.RowKit

theorem ReadV.take {w : World} {ao : Option Addr} {cap : Nat} {L : List V} (h : ReadV w (.slice ao L.length cap) L) (i : Nat) (hi : i ≤ L.length) : ReadV w (.slice ao i cap) (L.take i) := by
  obtain ⟨ao', cap', he, hc⟩ := h
  simp only [Value.slice.injEq] at he
  obtain ⟨rfl, _, rfl⟩ := he
  refine ⟨ao, cap, by rw [List.length_take, Nat.min_eq_left hi], fun j x hj => hc j x ?_⟩
  rw [List.getElem?_take] at hj
  split at hj
  · exact hj
  · cases hj

theorem Kind.all {L : List V} (hok : ∀ x ∈ L, x.ok) (hv : L.all isV = true) : ∀ x ∈ L, Kind x := fun x hx => Kind.of (by simp only [List.all_eq_true] at hv; exact hv x hx) (hok x hx)

theorem few_many {L : List V} {m : Int} (h : (fewV L && decide ((L.length : Int) ≤ m)) = true) : (L.length : Int) ≤ m := by
  simp only [Bool.and_eq_true, decide_eq_true_eq] at h
  exact h.2

theorem RD.cut {w : World} {B g cap n : Nat} {l : List UInt8} (h : w.ownsRow B 5 1 (.slice (some ⟨g, 0, none⟩) l.length cap) l.length (bytesV l)) (hn : n ≤ l.length) :
    RD w (.slice (some ⟨g, 0, none⟩) n cap) (l.take n) := by
  rcases RD.own h with ⟨cap', he, _⟩ | ⟨b0, off, cap', he, hrb, hb⟩
  · cases he
  · simp only [Value.slice.injEq, Option.some.injEq, Addr.mk.injEq] at he
    obtain ⟨⟨rfl, rfl, _⟩, _, rfl⟩ := he
    refine Or.inr ⟨g, 0, cap, ?_, hrb.take n, hb⟩
    rw [List.length_take, Nat.min_eq_left hn]

theorem all_take {L : List V} (h : L.all isV = true) (i : Nat) : (L.take i).all isV = true := by
  simp only [List.all_eq_true] at h ⊢
  exact fun x hx => h x (List.mem_of_mem_take hx)

theorem enc_take_pos {L : List V} {j : Nat} (hj : j < L.length) : (encL (L.take (j + 1))).length ≠ 0 := by
  cases L with
  | nil => simp at hj
  | cons x L =>
    show (encV x ++ encL (L.take j)).length ≠ 0
    obtain ⟨r, e⟩ := encV_head x
    rw [e]
    simp

set_option maxRecDepth 1000000 in
set_option maxHeartbeats 4000000 in
theorem codeCuts_any {W : World} {v : Value} {L : List V} (cut : Int) (hr : ReadV W v L) (hok : ∀ x ∈ L, x.ok) (hn : L.length ≤ maxLen) (hcap : ∀ ao n cap, v = .slice ao n cap → n ≤ cap ∧ cap ≤ maxLen)
    (c0 : -9223372036854775808 ≤ cut) (c1 : cut ≤ 9223372036854775807) :
    Calls Try.prog 7 #[v, .int .i64 cut] W fun e w' => e = .returned (.bool true) ∧ Below W.heap.size W w' := by
  have hr0 := hr
  obtain ⟨ao, cap, rfl, _⟩ := hr
  obtain ⟨hcap1, hcap2⟩ := hcap _ _ _ rfl
  clear hcap
  have HR := Lib.hid hr0; have HOK := Lib.hid hok
  have HN := Lib.hid hn
  unfold maxLen at hn hcap2
  clear hr0 hok
  go_enter Try.func7, Try.ntmps7
  go_wp2_with fail
  refine (known_any W).mono ?_
  rintro e w1 ⟨rfl, hs1⟩
  have HS1 := Lib.hid hs1; clear hs1
  go_wp2_with fail
  refine (few_any (HR.out.same HS1.out) HOK.out HN.out 8).mono ?_
  rintro e w1 ⟨rfl, rfl⟩
  have hfc : (fewV L && decide ((L.length : Int) ≤ 8)) = false ∨ (fewV L && decide ((L.length : Int) ≤ 8)) = true := by
    cases (fewV L && decide ((L.length : Int) ≤ 8)) <;> simp
  rcases hfc with hf | hf
  · rw [hf]
    clear hf
    go_wp2_with fail
    go_ret
    exact ⟨rfl, HS1.out.to_below⟩
  have h8 := few_many hf
  rw [hf]
  clear hf
  go_wp2_with fail
  cases hv : L.all isV with
  | false =>
    refine (put_no (HR.out.same HS1.out) HOK.out (by omega) hv).mono ?_
    rintro e w2 ⟨rfl, hs2⟩
    have HS2 := Lib.hid (HS1.out.trans hs2 (fun _ _ h => h)); clear hs2 hv
    go_wp2_with fail
    go_ret
    exact ⟨rfl, HS2.out.to_below⟩
  | true =>
    refine (put_yes (HR.out.same HS1.out) HOK.out (by omega) hv).mono ?_
    rintro e w2 ⟨x, rfl, hox, hs2⟩
    have HS2 := Lib.hid (HS1.out.trans hs2 (fun _ _ h => h)); have HV := Lib.hid hv; have HX := Lib.hid hox
    clear hs2 hv hox HS1
    have hel := encL_length L (fun y hy => isV_size (by have := HV.out; simp only [List.all_eq_true] at this; exact this y hy))
    obtain ⟨B, hB⟩ : ∃ B, B = encL L := ⟨_, rfl⟩
    have hox := HX.out
    rw [← hB] at hel hox
    have HB := Lib.hid hB
    clear hB HX
    by_cases hout : cut < 0 ∨ (B.length : Int) ≤ cut
    · by_cases hx0 : B.length = 0
      · rcases hox.2 with ⟨rfl, _⟩ | ⟨g, cp, cur, rfl, _⟩
        · clear hox
          rcases hout with h | h
          · go_wp2_with fail
            go_ret
            exact ⟨rfl, HS2.out.to_below⟩
          · have h2 : (0 : Int) ≤ cut := by omega
            have h3 : ¬ cut < 0 := by omega
            go_wp2_with fail
            go_ret
            exact ⟨rfl, HS2.out.to_below⟩
        · clear hox
          rcases hout with h | h
          · go_wp2_with fail
            go_ret
            exact ⟨rfl, HS2.out.to_below⟩
          · have h3 : ¬ cut < 0 := by omega
            go_wp2_with fail
            go_ret
            exact ⟨rfl, HS2.out.to_below⟩
      · obtain ⟨g, cp, rfl, _⟩ := own_slice hox hx0
        clear hox
        rcases hout with h | h
        · go_wp2_with fail
          go_ret
          exact ⟨rfl, HS2.out.to_below⟩
        · have h3 : ¬ cut < 0 := by omega
          go_wp2_with fail
          go_ret
          exact ⟨rfl, HS2.out.to_below⟩
    · obtain ⟨n, rfl⟩ : ∃ n : Nat, cut = n := ⟨cut.toNat, by omega⟩
      have hnB : n < B.length := by omega
      obtain ⟨g, cp, rfl, hcp1, hcp2⟩ := own_slice hox (by omega)
      unfold maxLen at hcp2
      have HOX := Lib.hid hox
      have hd1 : ¬ B.length ≤ n := by omega
      have hd2 : ¬ (n : Int) < 0 := by omega
      have hd3 : ¬ (B.length : Int) ≤ (n : Int) := by omega
      clear hox hout
      go_wp2_with fail
      go_loopg [7, 8] L.length (fun r b i wr => ∃ j : Nat, j + r = L.length ∧ i = .int .i64 ((j : Int) + 1) ∧ b = .bool (whole L n j) ∧ Same (fun _ => False) w2 wr)
      case atStart => exact ⟨0, by omega, rfl, by rw [whole_zero]; congr 1; rw [Bool.eq_iff_iff]; simp, Same.refl _ _⟩
      case round =>
        obtain ⟨j, hj, rfl, rfl, hs⟩ := hrel
        have HS := Lib.hid hs; clear hs
        by_cases h0 : gk = 0
        · subst h0
          obtain rfl : j = L.length := by omega
          clear hj
          have hrows := rows_cut L n (Kind.all HOK.out HV.out) (by rw [← HB.out]; omega)
          rw [← HB.out] at hrows
          have hox := HS.out.row HOX.out (fun _ _ => id)
          rw [whole_all] at *
          have hrd := RD.cut hox (Nat.le_of_lt hnB)
          have htl : (B.take n).length ≤ 1000000 := by rw [List.length_take]; omega
          obtain ⟨E, hE⟩ : ∃ E, E = endsAt L n := ⟨_, rfl⟩
          rw [← hE] at hrows ⊢
          have HRD := Lib.hid hrd; have HTL := Lib.hid htl; have HROWS := Lib.hid hrows
          clear hox hrd htl hE hrows HOX HB HV HOK HR HN
          go_wp2_with fail
          refine (get_reads HRD.out HTL.out).mono ?_
          rintro e w4 ⟨hs4, hsay⟩
          have hrd4 := HRD.out.same hs4
          have hs5 := (HS2.out.trans HS.out (fun _ _ h => h)).trans hs4 (fun _ _ h => h)
          have HRD4 := Lib.hid hrd4; have HS5 := Lib.hid hs5
          cases hro : rows (B.take n) with
          | none =>
            rw [hro] at hsay
            subst hsay
            have hE : E = false := by rw [← HROWS.out, hro]; rfl
            have HRO := Lib.hid hro
            subst hE
            clear hs4 hrd4 hs5 hro HRD HROWS HS2 HS
            go_wp2_with fail
            refine (whole_reads HRD4.out HTL.out).mono ?_
            rintro e w5 ⟨rfl, hs6⟩
            rw [HRO.out]
            have HS6 := Lib.hid (HS5.out.trans hs6 (fun _ _ h => h)); clear hs6
            go_wp2_with fail
            go_ret
            exact ⟨rfl, HS6.out.to_below⟩
          | some M =>
            rw [hro] at hsay
            obtain ⟨v', rfl, _⟩ := hsay
            have hE : E = true := by rw [← HROWS.out, hro]; rfl
            have HRO := Lib.hid hro
            subst hE
            clear hs4 hrd4 hs5 hro HRD HROWS HS2 HS
            go_wp2_with fail
            refine (whole_reads HRD4.out HTL.out).mono ?_
            rintro e w5 ⟨rfl, hs6⟩
            rw [HRO.out]
            have HS6 := Lib.hid (HS5.out.trans hs6 (fun _ _ h => h)); clear hs6
            go_wp2_with fail
            go_ret
            exact ⟨rfl, HS6.out.to_below⟩
        · have hjl : j < L.length := by omega
          obtain ⟨b, off, rfl, _⟩ : ∃ b off, ao = some ⟨b, off, none⟩ ∧ True := by
            obtain ⟨ao', cap', he, hc⟩ := HR.out
            simp only [Value.slice.injEq] at he
            obtain ⟨rfl, _, rfl⟩ := he
            obtain ⟨b, off, e, _⟩ := hc j L[j] (List.getElem?_eq_getElem hjl)
            exact ⟨b, off, e, trivial⟩
          have hrt := ((HR.out.same HS2.out).same HS.out).take (j + 1) hjl
          have hput := put_yes hrt (fun x hx => HOK.out x (List.mem_of_mem_take hx)) (by rw [List.length_take]; omega) (all_take HV.out (j + 1))
          have HP := Lib.hid hput; clear hrt hput
          have hws := whole_succ L n j
          have hpos := enc_take_pos hjl
          obtain ⟨P, hP⟩ : ∃ P, P = encL (L.take (j + 1)) := ⟨_, rfl⟩
          rw [← hP] at hws hpos HP
          clear hP
          have HWS := Lib.hid hws
          have HPOS := Lib.hid hpos
          obtain ⟨E, hE⟩ : ∃ E, E = whole L n j := ⟨_, rfl⟩
          have hws2 := HWS.out
          rw [← hE] at hws2 ⊢
          have HWS2 := Lib.hid hws2
          clear hws hpos hE hws2 HWS
          go_wp2_with fail
          refine HP.out.mono ?_
          rintro e w4 ⟨y, rfl, hoy, hs4⟩
          obtain ⟨gy, cy, rfl, _, _⟩ := own_slice hoy HPOS.out
          have HS4 := Lib.hid (HS.out.trans hs4 (fun _ _ h => h))
          clear hoy hs4 HP HPOS HS
          cases E with
          | true =>
            go_wp2_with fail
            go_roundg (gk - 1)
            case measure => omega
            case rel => exact ⟨j + 1, by omega, by go_num, by rw [HWS2.out]; rfl, HS4.out⟩
          | false =>
            go_wp2_with fail
            go_roundg (gk - 1)
            case measure => omega
            case rel => exact ⟨j + 1, by omega, by go_num, by rw [HWS2.out, Bool.false_or]; exact congrArg Value.bool (by rw [Bool.eq_iff_iff, beq_iff_eq, beq_iff_eq]; omega), HS4.out⟩

end Go.Proofs.Ytmdkfbbagjcboaa
