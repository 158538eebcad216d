/-
  rialtoref7.Compare: what each of the statements' comparators tells. Conditions: few values, short texts.
-/
import Derived.Test.YtgfmemggfbgjeaaGreatDoorM32
import Derived.Deep.QuietTactic
import Derived.BigQuiet
import Derived.Deep.RegionLaw
import Derived.IntWalk
namespace Go.Proofs.YtgfmemggfbgjeaaGreatDoor
open Go.RowKit Go.Lib
set_option maxRecDepth 1000000

/-- How long the texts of a row are. -/
def sizeV : List V → Nat
  | [] => 0
  | x :: L => x.s.size + sizeV L

theorem sizeV_take : ∀ (L : List V) (j : Nat) (x : V), L[j]? = some x → sizeV (L.take (j + 1)) = sizeV (L.take j) + x.s.size
  | [], j, x, h => by simp at h
  | y :: L, 0, x, h => by simp at h; subst h; simp [sizeV]
  | y :: L, j + 1, x, h => by
    have := sizeV_take L j x (by simpa using h)
    simp only [List.take_succ_cons, sizeV]
    omega

theorem sizeV_le {m : Nat} : ∀ (L : List V), (∀ x ∈ L, x.s.size ≤ m) → sizeV L ≤ L.length * m
  | [], _ => by simp [sizeV]
  | y :: L, h => by
    have h1 := sizeV_le L (fun x hx => h x (by simp [hx]))
    have h2 := h y (by simp)
    simp only [sizeV, List.length_cons, Nat.add_mul, Nat.one_mul]
    omega

set_option maxHeartbeats 4000000 in
theorem rsize_any {w : World} {v : Value} {L : List V} (hr : ReadV w v L) (hs : ∀ x ∈ L, x.s.size ≤ 200) (hn : L.length ≤ 1000) :
    Calls Tryz.prog 72 #[v] w fun e w' => e = .returned (.int .i64 (sizeV L : Nat)) ∧ w = w' := by
  obtain ⟨ao, cap, rfl, hc⟩ := hr
  have HC := Lib.hid hc; have HS := Lib.hid hs
  clear hc hs
  go_enter Tryz.func72, Tryz.ntmps72
  go_wp2_with fail
  go_loopg [3, 4] L.length (fun r n i wr => ∃ j : Nat, j + r = L.length ∧ i = .int .i64 j ∧ n = .int .i64 (sizeV (L.take j) : Nat) ∧ wr = w)
  case atStart => exact ⟨0, by omega, rfl, rfl, rfl⟩
  case round =>
    obtain ⟨j, hj, rfl, rfl, rfl⟩ := hrel
    by_cases hlt : j < L.length
    · obtain ⟨r, rfl⟩ : ∃ r, gk = r + 1 := ⟨gk - 1, by omega⟩
      have HJ := Lib.hid hj
      have hx : L[j]? = some L[j] := List.getElem?_eq_getElem hlt
      obtain ⟨b, off, rfl, hb, c0, c1, c2, c3⟩ := HC.out j _ hx
      have hst := sizeV_take L j _ hx
      have hle := sizeV_le (L.take j) (fun x hx => HS.out x (List.mem_of_mem_take hx))
      have hle2 := HS.out _ (List.mem_of_getElem? hx)
      rw [List.length_take, Nat.min_eq_left (by omega)] at hle
      generalize L[j] = x at *
      have hw : IntKind.i64.wrap (((sizeV (L.take j) : Nat) : Int) + (x.s.size : Int)) = ((sizeV (L.take j) : Nat) : Int) + (x.s.size : Int) := IntWalk.i64_in _ (by omega)
      have HST := Lib.hid hst
      clear hj hx hst hle hle2 hb c0 c1 c3
      generalize sizeV (L.take j) = m at *
      go_wp2_with fail
      go_roundg r
      case measure => omega
      case rel => exact ⟨j + 1, by have := HJ.out; omega, by go_num, by rw [HST.out]; simp, rfl⟩
    · obtain rfl : j = L.length := by omega
      clear hj
      go_wp2_with fail
      go_ret
      exact ⟨by simp, rfl⟩

/-- What the comparator with number n tells. -/
def cmpR (n : Int) (A B : List V) : Int :=
  if n = 0 then -rowsV A B
  else if n = 1 then rowsV (A.take 1) (B.take 1)
  else if n = 2 then (if sizeV A ≠ sizeV B then (if sizeV A < sizeV B then -1 else 1) else rowsV A B)
  else rowsV A B

theorem cmpF_range (a b : Nat) : -1 ≤ cmpF a b ∧ cmpF a b ≤ 1 := by
  unfold cmpF
  split
  · omega
  · split <;> omega

theorem sgn_range (b : Bool) : -1 ≤ sgn b ∧ sgn b ≤ 1 := by cases b <;> simp [sgn]

theorem cmpV_range (x y : V) : -1 ≤ cmpV x y ∧ cmpV x y ≤ 1 := by
  unfold cmpV
  split
  · exact sgn_range _
  · split
    · exact sgn_range _
    · split
      · exact sgn_range _
      · exact cmpF_range _ _

theorem rowsV_range : ∀ (A B : List V), -1 ≤ rowsV A B ∧ rowsV A B ≤ 1
  | [], [] => by simp [rowsV]
  | [], _ :: _ => by simp [rowsV]
  | _ :: _, [] => by simp [rowsV]
  | x :: A, y :: B => by
    unfold rowsV
    split
    · exact cmpV_range x y
    · exact rowsV_range A B

theorem cmpR_range (n : Int) (A B : List V) : -1 ≤ cmpR n A B ∧ cmpR n A B ≤ 1 := by
  have h := rowsV_range A B
  have h1 := rowsV_range (A.take 1) (B.take 1)
  unfold cmpR
  split
  · omega
  · split
    · exact h1
    · split
      · split
        · split <;> omega
        · exact h
      · exact h

/-- A row's capacity is a capacity. -/
def CapOk (v : Value) : Prop := ∀ ao n c, v = .slice ao n c → n ≤ c ∧ c ≤ maxLen

theorem ReadV.cut {w : World} {ao : Option Addr} {cap : Nat} {L : List V} (h : ReadV w (.slice ao L.length cap) L) (i : Nat) (hi : i ≤ L.length) : ReadV w (.slice ao i cap) (L.take i) := by
  obtain ⟨ao', cap', he, hc⟩ := h
  simp only [Value.slice.injEq] at he
  obtain ⟨rfl, _, rfl⟩ := he
  refine ⟨ao, cap, by rw [List.length_take, Nat.min_eq_left hi], fun j x hj => hc j x ?_⟩
  rw [List.getElem?_take] at hj
  split at hj
  · exact hj
  · cases hj

set_option maxHeartbeats 40000000 in
theorem ref7cmp_any {w : World} {va vb : Value} {A B : List V} (n : Int) (hra : ReadV w va A) (hrb : ReadV w vb B) (oka : ∀ x ∈ A, x.ok) (okb : ∀ x ∈ B, x.ok) (hsa : ∀ x ∈ A, x.s.size ≤ 200) (hsb : ∀ x ∈ B, x.s.size ≤ 200)
    (hna : A.length ≤ 1000) (hnb : B.length ≤ 1000) (hca : CapOk va) (hcb : CapOk vb) :
    Calls Tryz.prog 49 #[.int .i64 n, va, vb] w fun e w' => e = .returned (.int .i64 (cmpR n A B)) ∧ Same (fun _ => False) w w' := by
  have hma : A.length ≤ maxLen := by unfold maxLen; omega
  have hmb : B.length ≤ maxLen := by unfold maxLen; omega
  have HROWS := Lib.hid (fun w' (hs : Same (fun _ => False) w w') => rows_any (hra.same hs) (hrb.same hs) oka okb hma hmb)
  have HRA := Lib.hid hra; have HRB := Lib.hid hrb
  have hrange := rowsV_range A B
  obtain ⟨ao, ac, rfl⟩ := readV_len hra
  obtain ⟨bo, bc, rfl⟩ := readV_len hrb
  obtain ⟨ca1, ca2⟩ := hca _ _ _ rfl
  obtain ⟨cb1, cb2⟩ := hcb _ _ _ rfl
  have HSZ := Lib.hid (rsize_any hra hsa hna); have HSZ2 := Lib.hid (rsize_any hrb hsb hnb)
  have HOKA := Lib.hid oka; have HOKB := Lib.hid okb
  unfold maxLen at ca2 cb2
  clear hra hrb oka okb hca hcb hsa hsb
  by_cases n0 : n = 0
  · have hcm : cmpR n A B = -rowsV A B := by unfold cmpR; rw [if_pos n0]
    have HCM := Lib.hid hcm
    subst n0
    clear hcm
    generalize hrr : rowsV A B = r at *
    have hneg : IntKind.i64.wrap (-r) = -r := IntWalk.i64_in _ (by omega)
    clear hrr
    go_enter Tryz.func49, Tryz.ntmps49
    go_wp2_with fail
    refine (HROWS.out w (Same.refl _ w)).mono ?_
    rintro e w2 ⟨rfl, hs2⟩
    have HS2 := Lib.hid hs2
    clear hs2
    go_wp2_with fail
    go_ret
    exact ⟨ret_i64 HCM.out.symm, HS2.out⟩
  have g0 : (n == 0) = false := by simp [n0]
  by_cases n1 : n = 1
  · have hcm : cmpR n A B = rowsV (A.take 1) (B.take 1) := by unfold cmpR; rw [if_neg n0, if_pos n1]
    have HCM := Lib.hid hcm
    have HR1 := Lib.hid (fun w' (hs : Same (fun _ => False) w w') (i j : Nat) (hi : i ≤ A.length) (hj : j ≤ B.length) => rows_any ((HRA.out.cut i hi).same hs) ((HRB.out.cut j hj).same hs) (fun x hx => HOKA.out x (List.mem_of_mem_take hx)) (fun x hx => HOKB.out x (List.mem_of_mem_take hx)) (by rw [List.length_take]; omega) (by rw [List.length_take]; omega))
    subst n1
    clear hcm n0 g0 HROWS HSZ HSZ2
    go_enter Tryz.func49, Tryz.ntmps49
    go_wp2_with fail
    have hA : A.length = 0 ∨ (0 < A.length ∧ ∃ b off, ao = some ⟨b, off, none⟩) := by
      rcases Nat.eq_zero_or_pos A.length with h | h
      · exact Or.inl h
      · obtain ⟨ao', cap', e, hc⟩ := HRA.out
        cases e
        obtain ⟨b, off, e, _⟩ := hc 0 A[0] (List.getElem?_eq_getElem h)
        exact Or.inr ⟨h, b, off, e⟩
    have hB : B.length = 0 ∨ (0 < B.length ∧ ∃ b off, bo = some ⟨b, off, none⟩) := by
      rcases Nat.eq_zero_or_pos B.length with h | h
      · exact Or.inl h
      · obtain ⟨ao', cap', e, hc⟩ := HRB.out
        cases e
        obtain ⟨b, off, e, _⟩ := hc 0 B[0] (List.getElem?_eq_getElem h)
        exact Or.inr ⟨h, b, off, e⟩
    have HLA := Lib.hid hA; have HLB := Lib.hid hB
    clear hA hB
    rcases HLA.out with hA | ⟨hA, b, off, rfl⟩
    · obtain rfl : A = [] := List.eq_nil_of_length_eq_zero hA
      rcases ao with _ | ao
      · rcases HLB.out with hB | ⟨hB, b', off', rfl⟩
        · obtain rfl : B = [] := List.eq_nil_of_length_eq_zero hB
          rcases bo with _ | bo
          · go_region_law (first | (go_simp; refine (HR1.out _ ((Same.refl _ w).drew) 0 0 (Nat.zero_le _) (Nat.zero_le _)).mono ?_; rintro e w2 ⟨rfl, hs2⟩))
            all_goals
              have HS2 := Lib.hid ((Same.refl (fun _ => False) w).drew.trans hs2 (fun _ _ h => h))
              clear hs2
              go_wp2_with fail
              go_ret
              exact ⟨ret_i64 (by rw [HCM.out] <;> rfl), HS2.out⟩
          · go_region_law (first | (go_simp; refine (HR1.out _ ((Same.refl _ w).drew) 0 0 (Nat.zero_le _) (Nat.zero_le _)).mono ?_; rintro e w2 ⟨rfl, hs2⟩))
            all_goals
              have HS2 := Lib.hid ((Same.refl (fun _ => False) w).drew.trans hs2 (fun _ _ h => h))
              clear hs2
              go_wp2_with fail
              go_ret
              exact ⟨ret_i64 (by rw [HCM.out] <;> rfl), HS2.out⟩
        · have gB : ¬ (B.length : Int) < 1 := by omega
          have gB2 : (1 : Int) ≤ (B.length : Int) := by omega
          have gB3 : (1 : Int) ≤ (bc : Int) := by omega
          go_region_law (first | (go_simp; refine (HR1.out _ ((Same.refl _ w).drew) 0 1 (Nat.zero_le _) hB).mono ?_; rintro e w2 ⟨rfl, hs2⟩))
          all_goals
            have HS2 := Lib.hid ((Same.refl (fun _ => False) w).drew.trans hs2 (fun _ _ h => h))
            clear hs2
            go_wp2_with fail
            go_ret
            exact ⟨ret_i64 (by rw [HCM.out] <;> rfl), HS2.out⟩
      · rcases HLB.out with hB | ⟨hB, b', off', rfl⟩
        · obtain rfl : B = [] := List.eq_nil_of_length_eq_zero hB
          rcases bo with _ | bo
          · go_region_law (first | (go_simp; refine (HR1.out _ ((Same.refl _ w).drew) 0 0 (Nat.zero_le _) (Nat.zero_le _)).mono ?_; rintro e w2 ⟨rfl, hs2⟩))
            all_goals
              have HS2 := Lib.hid ((Same.refl (fun _ => False) w).drew.trans hs2 (fun _ _ h => h))
              clear hs2
              go_wp2_with fail
              go_ret
              exact ⟨ret_i64 (by rw [HCM.out] <;> rfl), HS2.out⟩
          · go_region_law (first | (go_simp; refine (HR1.out _ ((Same.refl _ w).drew) 0 0 (Nat.zero_le _) (Nat.zero_le _)).mono ?_; rintro e w2 ⟨rfl, hs2⟩))
            all_goals
              have HS2 := Lib.hid ((Same.refl (fun _ => False) w).drew.trans hs2 (fun _ _ h => h))
              clear hs2
              go_wp2_with fail
              go_ret
              exact ⟨ret_i64 (by rw [HCM.out] <;> rfl), HS2.out⟩
        · have gB : ¬ (B.length : Int) < 1 := by omega
          have gB2 : (1 : Int) ≤ (B.length : Int) := by omega
          have gB3 : (1 : Int) ≤ (bc : Int) := by omega
          go_region_law (first | (go_simp; refine (HR1.out _ ((Same.refl _ w).drew) 0 1 (Nat.zero_le _) hB).mono ?_; rintro e w2 ⟨rfl, hs2⟩))
          all_goals
            have HS2 := Lib.hid ((Same.refl (fun _ => False) w).drew.trans hs2 (fun _ _ h => h))
            clear hs2
            go_wp2_with fail
            go_ret
            exact ⟨ret_i64 (by rw [HCM.out] <;> rfl), HS2.out⟩
    · rcases HLB.out with hB | ⟨hB, b', off', rfl⟩
      · obtain rfl : B = [] := List.eq_nil_of_length_eq_zero hB
        rcases bo with _ | bo
        · have gA : ¬ (A.length : Int) < 1 := by omega
          have gA2 : (1 : Int) ≤ (A.length : Int) := by omega
          have gA3 : (1 : Int) ≤ (ac : Int) := by omega
          go_region_law (first | (go_simp; refine (HR1.out _ ((Same.refl _ w).drew) 1 0 hA (Nat.zero_le _)).mono ?_; rintro e w2 ⟨rfl, hs2⟩))
          all_goals
            have HS2 := Lib.hid ((Same.refl (fun _ => False) w).drew.trans hs2 (fun _ _ h => h))
            clear hs2
            go_wp2_with fail
            go_ret
            exact ⟨ret_i64 (by rw [HCM.out] <;> rfl), HS2.out⟩
        · have gA : ¬ (A.length : Int) < 1 := by omega
          have gA2 : (1 : Int) ≤ (A.length : Int) := by omega
          have gA3 : (1 : Int) ≤ (ac : Int) := by omega
          go_region_law (first | (go_simp; refine (HR1.out _ ((Same.refl _ w).drew) 1 0 hA (Nat.zero_le _)).mono ?_; rintro e w2 ⟨rfl, hs2⟩))
          all_goals
            have HS2 := Lib.hid ((Same.refl (fun _ => False) w).drew.trans hs2 (fun _ _ h => h))
            clear hs2
            go_wp2_with fail
            go_ret
            exact ⟨ret_i64 (by rw [HCM.out] <;> rfl), HS2.out⟩
      · have gA : ¬ (A.length : Int) < 1 := by omega
        have gA2 : (1 : Int) ≤ (A.length : Int) := by omega
        have gA3 : (1 : Int) ≤ (ac : Int) := by omega
        have gB : ¬ (B.length : Int) < 1 := by omega
        have gB2 : (1 : Int) ≤ (B.length : Int) := by omega
        have gB3 : (1 : Int) ≤ (bc : Int) := by omega
        go_region_law (first | (go_simp; refine (HR1.out _ ((Same.refl _ w).drew) 1 1 hA hB).mono ?_; rintro e w2 ⟨rfl, hs2⟩))
        all_goals
          have HS2 := Lib.hid ((Same.refl (fun _ => False) w).drew.trans hs2 (fun _ _ h => h))
          clear hs2
          go_wp2_with fail
          go_ret
          exact ⟨ret_i64 (by rw [HCM.out] <;> rfl), HS2.out⟩
  have g1 : (n == 1) = false := by simp [n1]
  by_cases n2 : n = 2
  · have hcm : cmpR n A B = if sizeV A ≠ sizeV B then (if sizeV A < sizeV B then -1 else 1) else rowsV A B := by unfold cmpR; rw [if_neg n0, if_neg n1, if_pos n2]
    have HCM := Lib.hid hcm
    subst n2
    clear hcm n0 n1 g0 g1
    go_enter Tryz.func49, Tryz.ntmps49
    go_wp2_with fail
    refine HSZ.out.mono ?_
    rintro e w2 ⟨rfl, rfl⟩
    go_wp2_with fail
    refine HSZ2.out.mono ?_
    rintro e w2 ⟨rfl, rfl⟩
    generalize sizeV A = sa at *
    generalize sizeV B = sb at *
    by_cases hne : sa = sb
    · have gne : ((sa : Int) != (sb : Int)) = false := by simp [hne]
      have HNE := Lib.hid hne
      clear hne
      go_wp2_with fail
      refine (HROWS.out w (Same.refl _ w)).mono ?_
      rintro e w2 ⟨rfl, hs2⟩
      have HS2 := Lib.hid hs2
      clear hs2
      go_wp2_with fail
      go_ret
      exact ⟨ret_i64 (by rw [HCM.out, if_neg (fun h => h HNE.out)]), HS2.out⟩
    · have gne : ((sa : Int) != (sb : Int)) = true := by simp; omega
      by_cases hlt : sa < sb
      · have glt : (sa : Int) < (sb : Int) := by omega
        have HNE := Lib.hid hne; have HLT := Lib.hid hlt
        clear hne hlt
        go_wp2_with fail
        go_ret
        exact ⟨ret_i64 (by rw [HCM.out, if_pos HNE.out, if_pos HLT.out]), Same.refl _ w⟩
      · have glt : ¬ (sa : Int) < (sb : Int) := by omega
        have HNE := Lib.hid hne; have HLT := Lib.hid hlt
        clear hne hlt
        go_wp2_with fail
        go_ret
        exact ⟨ret_i64 (by rw [HCM.out, if_pos HNE.out, if_neg HLT.out]), Same.refl _ w⟩
  have g2 : (n == 2) = false := by simp [n2]
  have hcm : cmpR n A B = rowsV A B := by unfold cmpR; rw [if_neg n0, if_neg n1, if_neg n2]
  have HCM := Lib.hid hcm
  clear hcm n0 n1 n2
  go_enter Tryz.func49, Tryz.ntmps49
  go_wp2_with fail
  refine (HROWS.out w (Same.refl _ w)).mono ?_
  rintro e w2 ⟨rfl, hs2⟩
  have HS2 := Lib.hid hs2
  clear hs2
  go_wp2_with fail
  go_ret
  exact ⟨ret_i64 HCM.out.symm, HS2.out⟩

end Go.Proofs.YtgfmemggfbgjeaaGreatDoor
