/-
  find of the law and of the reference; Logs. Conditions: few elements.
-/
import Derived.Test.YtelgbigpfiohfaaPlayP
import Derived.Test.YtelgbigpfiohfaaPosMoves
namespace Go.Proofs.Ytelgbigpfiohfaa
open Go.RowKit Go.Extern.Stop Go.Stop Go.Extern Go.Lib
set_option maxRecDepth 1000000

/-- Where a row stands; -1 if nowhere. -/
def fnd (L : List Int) (y : Int) : Int := if y ∈ L then (L.idxOf y : Int) else -1

theorem fnd_at {L : List Int} {y : Int} {j : Nat} (hj : j < L.length) (h : L[j] = y) (hn : ∀ i, i < j → L[i]? ≠ some y) : fnd L y = j := by
  have hm : y ∈ L := by rw [← h]; exact List.getElem_mem _
  rw [fnd, if_pos hm]
  have hi : L.idxOf y < L.length := List.idxOf_lt_length_iff.2 hm
  have hg := idxOf_get hm
  have h1 : ¬ L.idxOf y < j := fun hlt => hn _ hlt hg
  have h2 : L.idxOf y ≤ j := by
    apply Classical.byContradiction
    intro hc
    have h3 := List.not_of_lt_findIdx (show j < List.findIdx (· == y) L by simpa [List.idxOf] using (by omega : j < L.idxOf y))
    simp [h] at h3
  omega

theorem fnd_none {L : List Int} {y : Int} (hn : ∀ i, i < L.length → L[i]? ≠ some y) : fnd L y = -1 := by
  rw [fnd, if_neg]
  intro hm
  obtain ⟨i, hi, he⟩ := List.getElem_of_mem hm
  exact hn i hi (by rw [List.getElem?_eq_getElem hi, he])

set_option maxHeartbeats 4000000 in
theorem find14_any {w : World} {v : Value} {L : List Int} {y : Int} (hv : ReadC w 2 v (intsV L)) (hL : L.length ≤ 1000) :
    Calls Try.prog 22 #[v, .int .i64 y] w fun e w' => e = .returned (.int .i64 (fnd L y)) ∧ w = w' := by
  have hcap : ∃ ao cap, v = .slice ao L.length cap := by
    obtain ⟨ao, cap, rfl, _⟩ := hv
    exact ⟨ao, cap, by simp⟩
  obtain ⟨ao, cap, rfl⟩ := hcap
  have HV := Lib.hid hv
  clear hv
  go_enter Try.func22, Try.ntmps22
  go_wp2_with fail
  go_loopg [5] L.length (fun rr vi wr => ∃ (j : Nat), j + rr = L.length ∧ vi = .int .i64 j ∧ Aside (∀ i, i < j → L[i]? ≠ some y) ∧ w = wr)
  case atStart => exact ⟨0, by omega, rfl, (show Aside _ from fun i hi => absurd hi (Nat.not_lt_zero _)), rfl⟩
  case round =>
    obtain ⟨j, hj, rfl, hn, rfl⟩ := hrel
    by_cases hlast : j < L.length
    · have hl' : (j : Int) < (L.length : Int) := by omega
      have hjb : (j : Int) < 1001 := by omega
      obtain ⟨ab, ao2, ac2, acs, afr, ea, hab, _⟩ := HV.out.where (by simpa using (by omega : 0 < L.length))
      simp only [Value.slice.injEq] at ea
      obtain ⟨rfl, -, -⟩ := ea
      have hx := HV.out.cell (j := j) (x := .int .i64 L[j]) (by simp [hlast])
      have hla := lt_of_block hab
      have HF := Lib.hid (fun (h : L[j] = y) => fnd_at hlast h hn.out)
      have HLJ := Lib.hid (show L[j]? = some L[j] from List.getElem?_eq_getElem hlast)
      generalize L[j] = z at *
      clear hab
      by_cases hz : z = y
      · have HFF := Lib.hid (HF.out hz)
        subst hz
        go_wp2_with fail
        go_ret
        exact ⟨by rw [HFF.out]; rfl, rfl⟩
      · go_wp2_with fail
        go_roundg (gk - 1)
        case measure => omega
        case rel =>
          refine ⟨j + 1, by omega, by go_num, (show Aside _ from fun i hi => ?_), rfl⟩
          by_cases e : i = j
          · subst e
            rw [HLJ.out]
            exact fun h => hz (Option.some.inj h)
          · exact hn.out i (by omega)
    · have hl' : ¬ (j : Int) < (L.length : Int) := by omega
      obtain rfl : L.length = j := by omega
      have HFF := Lib.hid (fnd_none hn.out)
      go_wp2_with fail
      go_ret
      exact ⟨by rw [HFF.out]; rfl, rfl⟩

set_option maxHeartbeats 4000000 in
theorem find18_any {w : World} {v : Value} {L : List Int} {y : Int} (hv : ReadC w 2 v (intsV L)) (hL : L.length ≤ 1000) :
    Calls Try.prog 45 #[v, .int .i64 y] w fun e w' => e = .returned (.int .i64 (fnd L y)) ∧ w = w' := by
  have hcap : ∃ ao cap, v = .slice ao L.length cap := by
    obtain ⟨ao, cap, rfl, _⟩ := hv
    exact ⟨ao, cap, by simp⟩
  obtain ⟨ao, cap, rfl⟩ := hcap
  have HV := Lib.hid hv
  clear hv
  go_enter Try.func45, Try.ntmps45
  go_wp2_with fail
  go_loopg [5] L.length (fun rr vi wr => ∃ (j : Nat), j + rr = L.length ∧ vi = .int .i64 j ∧ Aside (∀ i, i < j → L[i]? ≠ some y) ∧ w = wr)
  case atStart => exact ⟨0, by omega, rfl, (show Aside _ from fun i hi => absurd hi (Nat.not_lt_zero _)), rfl⟩
  case round =>
    obtain ⟨j, hj, rfl, hn, rfl⟩ := hrel
    by_cases hlast : j < L.length
    · have hl' : (j : Int) < (L.length : Int) := by omega
      have hjb : (j : Int) < 1001 := by omega
      obtain ⟨ab, ao2, ac2, acs, afr, ea, hab, _⟩ := HV.out.where (by simpa using (by omega : 0 < L.length))
      simp only [Value.slice.injEq] at ea
      obtain ⟨rfl, -, -⟩ := ea
      have hx := HV.out.cell (j := j) (x := .int .i64 L[j]) (by simp [hlast])
      have hla := lt_of_block hab
      have HF := Lib.hid (fun (h : L[j] = y) => fnd_at hlast h hn.out)
      have HLJ := Lib.hid (show L[j]? = some L[j] from List.getElem?_eq_getElem hlast)
      generalize L[j] = z at *
      clear hab
      by_cases hz : z = y
      · have HFF := Lib.hid (HF.out hz)
        subst hz
        go_wp2_with fail
        go_ret
        exact ⟨by rw [HFF.out]; rfl, rfl⟩
      · go_wp2_with fail
        go_roundg (gk - 1)
        case measure => omega
        case rel =>
          refine ⟨j + 1, by omega, by go_num, (show Aside _ from fun i hi => ?_), rfl⟩
          by_cases e : i = j
          · subst e
            rw [HLJ.out]
            exact fun h => hz (Option.some.inj h)
          · exact hn.out i (by omega)
    · have hl' : ¬ (j : Int) < (L.length : Int) := by omega
      obtain rfl : L.length = j := by omega
      have HFF := Lib.hid (fnd_none hn.out)
      go_wp2_with fail
      go_ret
      exact ⟨by rw [HFF.out]; rfl, rfl⟩

/-- How many times a number may be halved until it is 0. -/
def halves : Nat → Nat → Nat
  | 0, _ => 0
  | f + 1, n => if n = 0 then 0 else 1 + halves f (n / 2)

theorem halves_log : ∀ (f n : Nat), n < f → 0 < n → halves f n = Nat.log2 n + 1
  | f + 1, n, h, h0 => by
    rw [halves, if_neg (by omega)]
    by_cases h1 : n / 2 = 0
    · have hn : n = 1 := by omega
      subst hn
      cases f with
      | zero => rfl
      | succ f =>
        rw [halves, if_pos rfl]
        rfl
    · rw [halves_log f (n / 2) (by omega) (by omega)]
      rw [Nat.log2_def n, if_pos (by omega)]
      omega

theorem halves_step (f n : Nat) (h : 0 < n) (hf : n < f) : halves f n = 1 + halves f (n / 2) := by
  have h2 : n / 2 < n := by omega
  rw [halves_log f n hf h]
  by_cases h1 : n / 2 = 0
  · rw [h1]
    have hn : n = 1 := by omega
    subst hn
    cases f with
    | zero => omega
    | succ f => rw [halves, if_pos rfl]; rfl
  · rw [halves_log f (n / 2) (by omega) (by omega), Nat.log2_def n, if_pos (by omega)]
    omega

set_option maxHeartbeats 4000000 in
theorem logs_any (w : World) {n : Nat} (hn : n ≤ 1000) : Calls Try.prog 25 #[.int .i64 n] w fun e w' => e = .returned (.int .i64 (Nat.log2 (n + 1) + 1 : Nat)) ∧ w = w' := by
  go_enter Try.func25, Try.ntmps25
  go_wp2_with fail
  go_loopg [3, 4] (n + 1) (fun rr v3 vm wr => ∃ (m c : Nat), m ≤ rr ∧ vm = .int .i64 m ∧ v3 = .int .i64 c ∧ m ≤ 1001 ∧ c ≤ 2000 ∧ Aside (c + halves 2000 m = Nat.log2 (n + 1) + 1 ∧ c + m ≤ 1001) ∧ w = wr)
  case atStart => exact ⟨n + 1, 0, by omega, by simp, rfl, by omega, by omega, (show Aside _ from ⟨by rw [Nat.zero_add, halves_log _ _ (by omega) (by omega)], by omega⟩), rfl⟩
  case round =>
    obtain ⟨m, c, hm, rfl, rfl, hm1, hc1, ha, rfl⟩ := hrel
    by_cases h0 : 0 < m
    · have h0' : (0 : Int) < (m : Int) := by omega
      obtain ⟨d, hd⟩ : ∃ d, m / 2 = d := ⟨_, rfl⟩
      have hq : (m : Int).tdiv 2 = (d : Int) := by rw [Int.tdiv_eq_ediv_of_nonneg (by omega)]; omega
      have hq2 : (m : Int) / 2 = (d : Int) := by omega
      have hmw : IntKind.i64.wrap ((m : Int).tdiv 2) = (d : Int) := by rw [hq, IntKind.wrap_i64]; omega
      have hmw2 : IntKind.i64.wrap (d : Int) = (d : Int) := by rw [IntKind.wrap_i64]; omega
      have HD := Lib.hid hd
      have hdm : d < m := by omega
      clear hd
      have hcb : (c : Int) ≤ 2000 := by omega
      go_wp2_with fail
      go_roundg d
      case measure => omega
      case rel => exact ⟨d, c + 1, Nat.le_refl _, by first | rfl | simp, by first | rfl | simp | go_num, by omega, by have := ha.out; omega, (show Aside _ from ⟨by have := ha.out.1; rw [halves_step 2000 m h0 (by omega), HD.out] at this; omega, by have := ha.out.2; have := HD.out; omega⟩), rfl⟩
    · have h0' : ¬ (0 : Int) < (m : Int) := by omega
      obtain rfl : m = 0 := by omega
      have hv : c = Nat.log2 (n + 1) + 1 := by have := ha.out.1; simpa [halves] using this
      have HV := Lib.hid hv
      clear hv ha
      go_wp2_with fail
      go_ret
      have h9 : ((Nat.log2 (n + 1) : Nat) : Int) + 1 = (c : Int) := by have := HV.out; omega
      exact ⟨by rw [h9]; rfl, rfl⟩

end Go.Proofs.Ytelgbigpfiohfaa
