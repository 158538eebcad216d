/-
  The log of package undo, told of memory: Keep forgets the steps behind a mark. Conditions: none on inputs.
-/
import Derived.Test.YthofmccpfknjnaaUndoA
import Derived.Laws.CopyRow
import Derived.Laws.CopyOwn
namespace Go.Proofs.Ythofmccpfknjnaa
open Go.RowKit

theorem zeroF (w : World) : (zeroValue 1).run Try.prog w = .ok .nilFunc w := by rfl

/-- 'clear' over the tail of a row of steps: the head stays. -/
theorem clear_tail {w : World} {g m n c : Nat} {cur : Array Value} (hh : w.heap[g]? = some (.cells cur 1 (0, 0))) (hn : m + n ≤ cur.size) (h0 : 0 < n) :
    ∃ cur' : Array Value, cur'.size = cur.size ∧ cur'.toList.take m = cur.toList.take m ∧ ∀ ty, (Builtin.clear_ #[41] ty #[.slice (some ⟨g, m, none⟩) n c]).run Try.prog w = .ok (.tuple #[]) (w.setRow g cur') := by
  refine ⟨(cur.toList.take (m + 0) ++ List.replicate n Value.nilFunc ++ cur.toList.drop (m + 0 + (List.replicate n Value.nilFunc).length)).toArray, ?_, ?_, fun ty => ?_⟩
  · simp; omega
  · simp only [Nat.add_zero]
    rw [List.append_assoc, List.take_append_of_le_length (by simp; omega), List.take_take, Nat.min_self]
  · have hst := run_storeCells_at Try.prog g m 1 (List.replicate n Value.nilFunc) 0 cur w hh (by simpa using hn) (fun v hv => by obtain ⟨_, rfl⟩ := List.mem_replicate.1 hv; rfl)
    have hzc : (Builtin.zeroCells Value.nilFunc.cells n).toList = List.replicate n Value.nilFunc := by
      simp [Builtin.zeroCells, Value.cells]
      apply List.ext_getElem
      · simp
      · intro i h1 h2
        simp [Nat.mod_one]
    obtain ⟨k, rfl⟩ : ∃ k, n = k + 1 := ⟨n - 1, by omega⟩
    simp only [Builtin.clear_]
    simp [run_underlying Try.underlying41, hzc, hst]

theorem clear_none (ao : Option Addr) (c : Nat) (w : World) (ty : TypeId) : (Builtin.clear_ #[41] ty #[.slice ao 0 c]).run Try.prog w = .ok (.tuple #[]) w := by
  cases ao <;> simp [Builtin.clear_, run_underlying Try.underlying41]

theorem keep_no {w : World} {B R p : Nat} {fs : List Value} (h : LogAtR w B R p fs) (m : Int) (hm : ¬ (0 ≤ m ∧ m ≤ fs.length)) :
    Calls Try.prog 11 #[.pointer (some ⟨p, 0, none⟩), .int .i64 m] w fun e w' => e = .returned (.bool false) ∧ w = w' := by
  have H := Lib.hid h
  have HM := Lib.hid hm
  clear h hm
  go_enter Try.func11, Try.ntmps11
  go_wp2_with fail
  refine (in_no H.out m HM.out).mono ?_
  rintro e w' ⟨rfl, rfl⟩
  go_wp2
  go_ret
  exact ⟨rfl, rfl⟩

theorem log_cut {w : World} {B R p g cap k : Nat} {fs : List Value} {cur : Array Value} (hBp : B ≤ p) (hBR : B ≤ R) (hgp : g ≠ p) (hg : R ≤ g) (hv : w.heap[p]? = some (.cells #[.slice (some ⟨g, 0, none⟩) fs.length cap] 43 (0, 0))) (hh : w.heap[g]? = some (.cells cur 1 (0, 0))) (hcap : cap ≤ maxLen) (hsz : cur.size = cap) (hfc : fs.length ≤ cap) (hk : k ≤ fs.length) (htake : cur.toList.take k = fs.take k) :
    LogAtR (w.setCell ⟨p, 0, none⟩ (.slice (some ⟨g, 0, none⟩) k cap)) B R p (fs.take k) :=
  ⟨hBp, hBR, _, one_setCell hv, by simp, Or.inr ⟨g, cap, cur, by simp; omega, hg, (Below.heap_setCell _ _ _ _ hgp).trans hh, by simp; omega, hcap, by omega, by simpa [Nat.min_eq_left hk] using htake⟩⟩

theorem keep_yes {w : World} {B R p : Nat} {fs : List Value} (h : LogAtR w B R p fs) (m : Nat) (hm : m ≤ fs.length) (hn : fs.length ≤ 1000000) :
    Calls Try.prog 11 #[.pointer (some ⟨p, 0, none⟩), .int .i64 m] w fun e w' => e = .returned (.bool true) ∧ LogAtR w' B R p (fs.take m) ∧ LogKeptR B R p w w' := by
  have H := Lib.hid h
  obtain ⟨hBp, hBR, v, hv, hown⟩ := h
  have hown0 := hown
  obtain ⟨hl, h2⟩ := hown
  rcases h2 with ⟨rfl, h0⟩ | ⟨g, cap, cur, rfl, hg, hh, hnc, hcp, hcs, htake⟩
  · obtain rfl : fs = [] := List.length_eq_zero_iff.1 h0
    obtain rfl : m = 0 := by simpa using hm
    have c0 := cell_of_one hv
    have f0 := free_of_one hv
    have HV := Lib.hid hv; clear hv
    have HO := Lib.hid hown0; clear hown0
    clear hl h0 hm hn
    have hcz := clear_none
    go_enter Try.func11, Try.ntmps11
    go_wp2_with fail
    refine (in_yes H.out _ (by omega) (by simp)).mono ?_
    rintro e w' ⟨rfl, rfl⟩
    go_wp2
    go_ret
    refine ⟨rfl, ⟨hBp, hBR, _, one_setCell HV.out, World.ownsRow_nil _ _ _ _⟩, ⟨(Below.refl B w).setCell hBp _, fun k _ hkp _ => Below.heap_setCell _ _ _ _ hkp⟩⟩
  · have c0 := cell_of_one hv
    have f0 := free_of_one hv
    have HV := Lib.hid hv; clear hv
    have HO := Lib.hid hown0; clear hown0
    have HH := Lib.hid hh; clear hh
    have HT := Lib.hid htake; clear htake
    have HC := Lib.hid hcs; clear hcs
    have HL := Lib.hid hl; clear hl
    have hgp : g ≠ p := fun e => by subst e; have := HH.out; rw [HV.out] at this; simp at this
    have HP := Lib.hid hgp; clear hgp
    unfold maxLen at hcp
    by_cases hmn : m = fs.length
    · subst hmn
      have hcz := clear_none
      go_enter Try.func11, Try.ntmps11
      go_wp2_with fail
      refine (in_yes H.out _ (by omega) (by omega)).mono ?_
      rintro e w' ⟨rfl, rfl⟩
      go_wp2
      all_goals
        go_ret
        have hend := log_cut (k := fs.length) hBp hBR HP.out hg HV.out HH.out hcp (by rw [HC.out, Nat.mul_one]) hnc (Nat.le_refl _) (by simpa using HT.out)
        rw [List.take_length] at hend
        refine ⟨rfl, ?_, ⟨(Below.refl B w).setCell hBp _, fun k _ hkp _ => Below.heap_setCell _ _ _ _ hkp⟩⟩
        first | exact hend | (have e : cap = fs.length := by assumption
                              rw [e] at hend
                              exact hend)
    · have hlt : m < fs.length := by omega
      have hmc : ¬ cap = m := by omega
      obtain ⟨cur', hs', ht', hcl⟩ := clear_tail (m := m) (n := fs.length - m) (c := cap - m) HH.out (by rw [HC.out]; omega) (by omega)
      have c1 : (w.setRow g cur').cell? ⟨p, 0, none⟩ = some (.slice (some ⟨g, 0, none⟩) fs.length cap) := by rw [cell_setRow_other _ _ _ _ (fun e => HP.out e.symm)]; exact c0
      have h1 : (w.setRow g cur').heap[p]? = some (.cells #[.slice (some ⟨g, 0, none⟩) fs.length cap] 43 (0, 0)) := by rw [setRow_other _ _ _ _ (fun e => HP.out e.symm)]; exact HV.out
      have f1 := free_of_one h1
      have HV1 := Lib.hid h1; clear h1
      have HS' := Lib.hid hs'; clear hs'
      have HT' := Lib.hid ht'; clear ht'
      go_enter Try.func11, Try.ntmps11
      go_wp2_with fail
      refine (in_yes H.out _ (by omega) (by omega)).mono ?_
      rintro e w' ⟨rfl, rfl⟩
      go_wp2
      go_ret
      refine ⟨rfl, log_cut hBp hBR HP.out hg HV1.out (setRow_heap _ _ _ _ _ _ HH.out) hcp (by rw [HS'.out, HC.out, Nat.mul_one]) hnc (by omega) ?_, ⟨(below_setRow (Below.refl B w) (Nat.le_trans hBR hg) _).setCell hBp _, fun k hk hkp hr => ?_⟩⟩
      · have := HT.out
        rw [HT'.out, ← this, List.take_take]
        congr 1
        omega
      · rw [Below.heap_setCell _ _ _ _ hkp, setRow_other]
        intro e
        subst e
        rcases hr with hr | hr
        · omega
        · exact hr _ HH.out

end Go.Proofs.Ythofmccpfknjnaa
