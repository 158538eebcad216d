/-
  PosPlays answers true. Conditions: none.
-/
import Derived.Test.YtelgbigpfiohfaaPlayRound
import Derived.Deep.CutRange
import Derived.Deep.CutBlock
namespace Go.Proofs.Ytelgbigpfiohfaa
open Go.RowKit Go.Extern.Stop Go.Stop Go.Extern Go.Lib Go.Maps
set_option maxRecDepth 1000000

set_option maxHeartbeats 16000000 in
theorem posPlays_any {v : Value} {l : List Stp} (w : World) (hv : ReadT w v l) (hok : ∀ s ∈ l, s.ok) :
    Calls Try.prog 6 #[v] w fun e w' => e = .returned (.bool true) ∧ Same (fun _ => False) w w' := by
  have HK := Lib.hid (known14_any w)
  have hcap : ∃ ao cap, v = .slice ao l.length cap := by
    obtain ⟨ao, cap, rfl, _⟩ := hv
    exact ⟨ao, cap, rfl⟩
  obtain ⟨ao, cap, rfl⟩ := hcap
  have HV := Lib.hid hv; have HOK := Lib.hid hok
  clear hv hok
  by_cases h80 : (l.length : Int) > 80
  · go_enter Try.func6, Try.ntmps6
    go_wp2_with fail
    refine HK.out.mono ?_
    rintro e w1 ⟨rfl, hs1⟩
    have HS1 := Lib.hid hs1
    clear hs1
    go_wp2_with fail
    go_ret
    exact ⟨rfl, HS1.out⟩
  · have h80' : l.length ≤ 80 := by omega
    go_enter Try.func6, Try.ntmps6
    go_wp2_with fail
    refine HK.out.mono ?_
    rintro e w1 ⟨rfl, hs1⟩
    have HNEW := Lib.hid (pos_new w1)
    have HS1 := Lib.hid hs1
    clear hs1
    go_wp2_with fail
    refine HNEW.out.mono ?_
    rintro e w2 ⟨x, rfl, h2, hs2⟩
    obtain ⟨B, hB⟩ : ∃ B, B = w1.heap.size := ⟨_, rfl⟩
    rw [← hB] at h2
    have hwB : w.heap.size ≤ B := by rw [hB]; exact HS1.out.size
    have H2 := Lib.hid h2; have HS2 := Lib.hid (HS1.out.trans hs2 (fun _ _ h => h))
    clear h2 hs2 hB
    go_wp2_with fail
    go_loopg [4, 5] l.length (fun rr v4 vi wr => ∃ (j : Nat) (L : List Int) (c : Int) (N : Nat), j + rr = l.length ∧ vi = .int .i64 j ∧ wr.ownsRow B 2 1 v4 L.length (intsV L) ∧ IxAt 62 wr (OffM B v4) x L c N ∧ 0 ≤ c ∧ c ≤ 1000 * j ∧ N ≤ j ∧ L.length ≤ j ∧ Same (fun _ => False) w wr)
    case atStart => exact ⟨0, [], 0, 0, by omega, rfl, World.ownsRow_nil _ _ _ _, H2.out.mono (fun q _ h => ⟨h, by simp [Value.ownBlock]⟩), by omega, by omega, by omega, by simp, HS2.out⟩
    case round =>
      obtain ⟨j, L, c, N, hj, rfl, ho, hx, hc0, hc1, hN, hLj, hs⟩ := hrel
      by_cases hlast : j < l.length
      · have hl' : (j : Int) < (l.length : Int) := by omega
        have hjb : (j : Int) < 81 := by omega
        obtain ⟨ab, ao2, rfl, hla, e0, e1, e2, e3⟩ := (HV.out.kept hs).at hlast
        obtain ⟨k0, k1, k2, k3⟩ := HOK.out l[j] (List.getElem_mem _)
        generalize l[j].what = sw at *
        generalize l[j].i = si at *
        generalize l[j].k = sk at *
        generalize l[j].id = sd at *
        obtain ⟨n, hn⟩ : ∃ n, L.length = n := ⟨_, rfl⟩
        obtain ⟨a4, c4, rfl⟩ : ∃ a4 c4, u4 = .slice a4 n c4 := by
          obtain ⟨a4, c4, e, _⟩ := ownsRow_read ho
          exact ⟨a4, c4, by rw [e]; simp [hn]⟩
        have HR := Lib.hid (And.intro ho (And.intro hx (And.intro hn (And.intro hs (And.intro hLj (And.intro e0 (And.intro e1 (And.intro e2 e3))))))))
        clear ho hx hn hs hLj e0 e1 e2 e3
        go_upto_block 1 with fail
        obtain ⟨ho, hx, hn, hs, hLj, e0, e1, e2, e3⟩ := HR.out
        refine round_any (w := w) ho hx hn hlast (by omega) hc0 hc1 hN hLj hs hwB hla e0 e1 e2 e3 k0 k1 k2 k3 ?_
        clear HR ho hx hn hs hLj e0 e1 e2 e3 k0 k1 k2 k3
        intro _ _ _ _ _ _ _ _ _ _ _ _ _ _ _ _ _ _ _ _ _ _ _ _ _ _ _ _ _ _ _ _ _ _ _ _ _ _ _ _ _ _ _ _ _ _ _ _ _ _ _ _ _ _ _ _ _ _ _ _ _ _ _ _ _ _ _ _ _ _ _ _ _ _ _ _ _ _ _ _ _ _ _ _ _ _ _ _ _ _ _ _ _ _ _ _ _ _ _ _ _ _ _ _ _ _ _ _ _ _ _ _ _ _ _ _ _ _ _ _ _ _ _ _ _ _ _ _ _ _ _ _ _ _ _ _ _ _ _ _ _ _ _ _ _ _ _ _ _ _ _ _ _ _ _ _ _ _ _ _ _ _ _ _ _ _ _ _ _ _ _ _ _ _ _ _ _ _ _ _ _ _ _ _ _ _ _ _ _ _ _ _ _ _ _ _ _ _ _ _ _ _ _ _ _ _ _ _ _ _ _ _ _ _ _ _ _ _ _ _ _ _ _ _ _ _ _ _ _ _ _ _ _ _ _ _ _ _ _ _ _ _ _ _ _ _ _ _ _ _ _ _ _ _ _ _ _ _ _ _ _ _ _ _ _ _ _ _ _ _ _ _ _ _ _ _ _ _ _ _ _ _ _ _ _ _ _ _ _ _ w9 hre
        have HRE := Lib.hid hre
        clear hre
        go_wp2_with fail
        go_roundg (gk - 1)
        case measure => omega
        case rel =>
          obtain ⟨L', c', N', ho', hx', d0, d1, dN, dL, hs'⟩ := HRE.out
          exact ⟨j + 1, L', c', N', by omega, by go_num, ho', hx', d0, by omega, dN, dL, hs'⟩
      · have hl' : ¬ (j : Int) < (l.length : Int) := by omega
        have HS := Lib.hid hs
        clear hs ho hx
        go_wp2_with fail
        go_ret
        exact ⟨rfl, HS.out⟩

end Go.Proofs.Ytelgbigpfiohfaa
