/-
  The log of package undo, told of memory: Back calls the steps behind a mark, the last one first, each once. Condition: what each step does is known (the hypothesis 'step').
-/
import Derived.Test.YthofmccpfknjnaaDoorUndoA
import Derived.Deep.LoopGhost
namespace Go.Proofs.YthofmccpfknjnaaDoor
open Go.RowKit

theorem back_no {w : World} {B R p : Nat} {fs : List Value} (h : LogAtR w B R p fs) (m : Int) (hm : ¬ (0 ≤ m ∧ m ≤ fs.length)) :
    Calls Tryd.prog 16 #[.pointer (some ⟨p, 0, none⟩), .int .i64 m] w fun e w' => e = .returned (.bool false) ∧ w = w' := by
  have H := Lib.hid h
  have HM := Lib.hid hm
  clear h hm
  go_enter Tryd.func16, Tryd.ntmps16
  go_wp2_with fail
  refine (in_no H.out m HM.out).mono ?_
  rintro e w' ⟨rfl, rfl⟩
  go_wp2
  go_ret
  exact ⟨rfl, rfl⟩

/-- A step of the log: a function value whose call, in a world in which the log holds the steps ahead of it, hands the log and what is said of the rest on. -/
def StepOf (B R p : Nat) (J : List Value → World → Prop) (fs : List Value) (f : Value) (w : World) : Prop :=
  ∃ fn cap, f = .func (.func fn) #[] cap ∧ (∀ w, (callFunc fn cap).run Tryd.prog w = .ok (.enter fn cap) w) ∧
    Calls Tryd.prog fn cap w fun e w' => e = .returned (.tuple #[]) ∧ J fs w' ∧ LogAtR w' B R p fs

theorem log_pop {w : World} {B R p n : Nat} {fs : List Value} {f : Value} (hlen : fs.length = n) (h : LogAtR w B R p (fs ++ [f])) :
    ∃ g cap, w.cell? ⟨p, 0, none⟩ = some (.slice (some ⟨g, 0, none⟩) (n + 1) cap) ∧ w.frozen? ⟨p, 0, none⟩ = false ∧ g ≠ p ∧ R ≤ g ∧ n < cap ∧ cap ≤ maxLen ∧
      w.cell? ⟨g, n, none⟩ = some f ∧ w.frozen? ⟨g, n, none⟩ = false ∧
      ∀ u, LogAtR ((w.setCell ⟨g, n, none⟩ u).setCell ⟨p, 0, none⟩ (.slice (some ⟨g, 0, none⟩) n cap)) B R p fs ∧
        LogKeptR B R p w ((w.setCell ⟨g, n, none⟩ u).setCell ⟨p, 0, none⟩ (.slice (some ⟨g, 0, none⟩) n cap)) := by
  obtain ⟨hBp, hBR, v, hv, hown⟩ := h
  obtain ⟨hl, h2⟩ := hown
  simp only [List.length_append, List.length_cons, List.length_nil, Nat.zero_add, hlen] at h2 hl
  rcases h2 with ⟨rfl, h0⟩ | ⟨g, cap, cur, rfl, hg, hh, hnc, hcp, hcs, htake⟩
  · omega
  have hgp : g ≠ p := fun e => by subst e; rw [hh] at hv; simp at hv
  have hsz : n < cur.size := by omega
  have hcell : cur[n]? = some f := by
    have h3 : (cur.toList.take ((n + 1) * 1))[n]? = (fs ++ [f])[n]? := by rw [htake]
    rw [List.getElem?_take_of_lt (by omega), List.getElem?_append_right (by omega), hlen, Nat.sub_self] at h3
    simpa using h3
  have h1 : (w.setCell ⟨g, n, none⟩ .nilFunc).heap[p]? = some (.cells #[.slice (some ⟨g, 0, none⟩) (n + 1) cap] 39 (0, 0)) :=
    (Below.heap_setCell _ _ _ _ (fun e => hgp e.symm)).trans hv
  refine ⟨g, cap, cell_of_one hv, free_of_one hv, hgp, hg, by omega, hcp, ?_, ?_, fun u => ⟨?_, ?_⟩⟩
  · simp [World.cell?, hh, hcell]
  · simp [World.frozen?, hh]
  · have hv1 : (w.setCell ⟨g, n, none⟩ u).heap[p]? = some (.cells #[.slice (some ⟨g, 0, none⟩) (n + 1) cap] 39 (0, 0)) :=
      (Below.heap_setCell _ _ _ _ (fun e => hgp e.symm)).trans hv
    refine ⟨hBp, hBR, _, one_setCell hv1, by simp, Or.inr ⟨g, cap, cur.setIfInBounds n u, by rw [hlen], hg, ?_, by omega, hcp, by simpa using hcs, ?_⟩⟩
    · rw [Below.heap_setCell _ _ _ _ hgp, setCell_eq_setRow w g n cur _ _ u hh]
      exact setRow_heap _ _ _ _ _ _ hh
    · have h3 : (cur.toList.take ((n + 1) * 1)).take n = (fs ++ [f]).take n := by rw [htake]
      rw [List.take_take, Nat.min_eq_left (by omega), List.take_append_of_le_length (by omega), List.take_of_length_le (by omega : fs.length ≤ n)] at h3
      rw [hlen, Nat.mul_one, Array.toList_setIfInBounds, List.take_set, List.set_eq_of_length_le (by simp; omega), h3]
  · refine ⟨((Below.refl B w).setCell (Nat.le_trans hBR hg) _).setCell hBp _, fun k hk hkp hr => ?_⟩
    rw [Below.heap_setCell _ _ _ _ hkp]
    by_cases e : k = g
    · subst e
      rcases hr with hr | hr
      · omega
      · exact absurd hh (hr _)
    · exact Below.heap_setCell _ _ _ _ e

set_option maxHeartbeats 400000 in
theorem back_yes {B R p : Nat} (J : List Value → World → Prop) (m : Nat) (fs : List Value)
    (step : ∀ gs f w, m ≤ gs.length → gs ++ [f] <+: fs → J (gs ++ [f]) w → LogAtR w B R p gs → StepOf B R p J gs f w)
    (stab : ∀ gs w w', J gs w → LogKeptR B R p w w' → J gs w')
    (w : World) (hJ : J fs w) (h : LogAtR w B R p fs) (hm : m ≤ fs.length) (hn : fs.length ≤ 1000000) :
    Calls Tryd.prog 16 #[.pointer (some ⟨p, 0, none⟩), .int .i64 m] w fun e w' => e = .returned (.bool true) ∧ J (fs.take m) w' ∧ LogAtR w' B R p (fs.take m) := by
  have H := Lib.hid h; clear h
  have HJ := Lib.hid hJ; clear hJ
  have HS := Lib.hid step; clear step
  have HT := Lib.hid stab; clear stab
  go_enter Tryd.func16, Tryd.ntmps16
  go_wp2_with fail
  refine (in_yes H.out _ (by omega) (by omega)).mono ?_
  rintro e w' ⟨rfl, rfl⟩
  go_wp2_with fail
  go_loopg [] (fs.length - m) (fun k wr => m + k ≤ fs.length ∧ J (fs.take (m + k)) wr ∧ LogAtR wr B R p (fs.take (m + k)))
  case atStart => exact ⟨by omega, by rw [List.take_of_length_le (by omega)]; exact HJ.out, by rw [List.take_of_length_le (by omega)]; exact H.out⟩
  case round =>
    obtain ⟨hk, hj, hlog⟩ := hrel
    by_cases h0 : gk = 0
    · subst h0
      obtain ⟨ao, cap, hc⟩ := log_len hlog
      have hl : (fs.take (m + 0)).length = m := by simp; omega
      rw [hl] at hc
      have HL := Lib.hid hlog; clear hlog
      have HJ2 := Lib.hid hj; clear hj
      clear hl
      go_wp2_with fail
      go_ret
      exact ⟨rfl, HJ2.out, HL.out⟩
    · obtain ⟨k, rfl⟩ : ∃ k, gk = k + 1 := ⟨gk - 1, by omega⟩
      have hsplit : fs.take (m + (k + 1)) = fs.take (m + k) ++ [fs[m + k]] := by
        rw [← Nat.add_assoc, List.take_succ_eq_append_getElem (by omega)]
      have hpre : fs.take (m + k) ++ [fs[m + k]] <+: fs := by rw [← hsplit]; exact List.take_prefix _ _
      rw [hsplit] at hj hlog
      obtain ⟨g, cap, c0, f0, hgp, hg, hnc, hcp, c1, f1, hboth⟩ := log_pop (n := m + k) (by simp; omega) hlog
      obtain ⟨fn, fcap, hf, hcf, hcall⟩ := HS.out _ _ _ (by simp; omega) hpre (HT.out _ _ _ hj (hboth .nilFunc).2) (hboth .nilFunc).1
      rw [hf] at c1
      have HC := Lib.hid hcall; clear hcall
      clear hj hlog hboth hf hsplit hpre h0
      unfold maxLen at hcp
      go_wp2_with fail
      refine HC.out.mono ?_
      rintro e w' ⟨rfl, hj, hl⟩
      have HJ2 := Lib.hid hj; clear hj
      have HL := Lib.hid hl; clear hl
      go_wp2_with fail
      go_roundg k
      case measure => omega
      case rel => exact ⟨by omega, HJ2.out, HL.out⟩

end Go.Proofs.YthofmccpfknjnaaDoor
