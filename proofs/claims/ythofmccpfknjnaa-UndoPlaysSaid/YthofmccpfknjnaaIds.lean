/-
  rialtohelp.Ids: two lists that hold the same numbers are told to be the same. Condition: the two lists are equal.
-/
import Derived.Test.YthofmccpfknjnaaRows
import Derived.Test.YthofmccpfknjnaaSep
import Derived.Deep.QuietTactic
import Derived.BigQuiet
namespace Go.Proofs.Ythofmccpfknjnaa
open Go.RowKit

theorem own_view {w : World} {base : Nat} {e : TypeId} {size : Nat} {v : Value} {n : Nat} {xs : List Value} (h : w.ownsRow base e size v n xs) :
    ∃ ao cap, v = .slice ao n cap ∧ n ≤ cap ∧ cap ≤ maxLen ∧ (0 < n → ∃ g, ao = some ⟨g, 0, none⟩) := by
  rcases h.2 with ⟨h1, h2⟩ | ⟨g, cap, cur, h1, _, _, h3, h4, _⟩
  · exact ⟨none, 0, by rw [h1, h2], by omega, Nat.zero_le _, fun h => by omega⟩
  · exact ⟨_, cap, h1, h3, h4, fun _ => ⟨g, rfl⟩⟩

theorem own_cell {w : World} {base : Nat} {e : TypeId} {g cap : Nat} {L : List Int} (h : w.ownsRow base e 1 (.slice (some ⟨g, 0, none⟩) L.length cap) L.length (L.map (Value.int .i64))) (k : Nat) (hk : k < L.length) : w.cell? ⟨g, k, none⟩ = some (.int .i64 L[k]) := by
  have := h.cellAt k (by omega)
  rw [this]
  simp [hk]

set_option maxHeartbeats 400000 in
theorem ids_any {w : World} {B : Nat} {va vb : Value} {L : List Int} (ha : w.ownsRow B 2 1 va L.length (L.map (Value.int .i64))) (hb : w.ownsRow B 2 1 vb L.length (L.map (Value.int .i64))) (hn : L.length ≤ 1000) :
    Calls Try.prog 14 #[va, vb] w fun e w' => e = .returned (.bool true) ∧ ∃ n, w' = w.drewN n := by
  obtain ⟨ao, ca, rfl, hca, hcm, hao⟩ := own_view ha
  obtain ⟨bo, cb, rfl, hcb, hbm, hbo⟩ := own_view hb
  have HA := Lib.hid ha
  have HB := Lib.hid hb
  clear ha hb
  have HAO := Lib.hid hao; have HBO := Lib.hid hbo
  clear hao hbo
  unfold maxLen at hcm hbm
  go_enter Try.func14, Try.ntmps14
  go_wp2_with fail
  go_loopw [5] (fun i wr => ∃ k : Nat, k ≤ L.length ∧ i = .int .i64 k ∧ ∃ n, wr = w.drewN n) (fun i _ => L.length - (intOf i).toNat)
  case atStart => exact ⟨0, Nat.zero_le _, rfl, 0, rfl⟩
  case round =>
    obtain ⟨k, hk, rfl, n, rfl⟩ := hrel
    by_cases hlt : k < L.length
    · obtain ⟨g, hg⟩ := HAO.out (by omega)
      obtain ⟨g', hg'⟩ := HBO.out (by omega)
      subst hg
      subst hg'
      have c1 : w.cell? ⟨g, k, none⟩ = some (.int .i64 L[k]) := own_cell HA.out k hlt
      have c2 : w.cell? ⟨g', k, none⟩ = some (.int .i64 L[k]) := own_cell HB.out k hlt
      generalize L[k] = x at *
      go_wp2_with fail
      go_quiet (fail)
      go_wp2_with fail
      go_roundw
      case rel => exact ⟨k + 1, by omega, by go_num, _, rfl⟩
      case measure => simp [intOf]; omega
    · go_wp2_with fail
      go_ret
      exact ⟨rfl, n, rfl⟩

end Go.Proofs.Ythofmccpfknjnaa
