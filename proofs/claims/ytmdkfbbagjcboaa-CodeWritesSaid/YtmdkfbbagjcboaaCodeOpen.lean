/-
  A slice of values that came in, opened. Conditions: none.
-/
import Derived.Test.YtmdkfbbagjcboaaCodeVals
import Derived.Deep.Slices
import Derived.ChangeArms
namespace Go.Proofs.Ytmdkfbbagjcboaa
open Go.RowKit Go.ChangeShapes Go.WideShapes

variable {H : Type} {enc : TypeId × Value → H} {w : World} {base : Nat} {spare : Nat → Bool} {held : Bool}

theorem trod_float {P : Program} {t : TypeId} {k : FloatKind} {fuel : Nat} {cs : List Value} {x : DataW H × List MemPlace} (ht : P.underlying t = some (.float k)) (h : DataW.trod enc P w base spare held fuel t cs = some x) :
    ∃ n, cs = [.float k n] ∧ (Lit.float k n).wf = true := by
  cases fuel with
  | zero => simp [DataW.trod] at h
  | succ n =>
    unfold DataW.trod at h
    rw [ht] at h
    split at h <;> simp_all

theorem value_struct : ∃ f0 f1 f2 f3 : Field, Try.prog.underlying 41 = some (.struct #[f0, f1, f2, f3]) ∧ f0.offset = 0 ∧ f1.offset = 1 ∧ f2.offset = 2 ∧ f3.offset = 3 ∧ f0.type = 3 ∧ f1.type = 2 ∧ f2.type = 9 ∧ f3.type = 39 :=
  ⟨_, _, _, _, Try.underlying41, rfl, rfl, rfl, rfl, rfl, rfl, rfl, rfl⟩

theorem value_cells4 : Try.prog.cellsOf 41 = 4 := by kernel_rfl
theorem cells_int : Try.prog.cellsOf 3 = 1 := by kernel_rfl
theorem cells_int64 : Try.prog.cellsOf 2 = 1 := by kernel_rfl
theorem cells_string : Try.prog.cellsOf 9 = 1 := by kernel_rfl
theorem cells_float : Try.prog.cellsOf 39 = 1 := by kernel_rfl

theorem open_elem {n : Nat} {cs : List Value} {x : DataW H × List MemPlace} (h : DataW.trod enc Try.prog w base spare held n 41 cs = some x) :
    ∃ y : V, y.ok ∧ cs = y.cells := by
  obtain ⟨f0, f1, f2, f3, he, o0, o1, o2, o3, t0, t1, t2, t3⟩ := value_struct
  obtain ⟨xs, k, _, _, hl, hxl, hf⟩ := DataW.trod_struct he h
  rw [value_cells4] at hl
  match xs, hxl, cs, hl with
  | [y0, y1, y2, y3], _, [v0, v1, v2, v3], _ =>
    have g0 := hf 0 f0 rfl
    have g1 := hf 1 f1 rfl
    have g2 := hf 2 f2 rfl
    have g3 := hf 3 f3 rfl
    rw [o0, t0, cells_int] at g0
    rw [o1, t1, cells_int64] at g1
    rw [o2, t2, cells_string] at g2
    rw [o3, t3, cells_float] at g3
    obtain ⟨k, e0, _, w0⟩ := DataW.trod_int Try.underlying3 g0
    obtain ⟨i, e1, _, w1⟩ := DataW.trod_int Try.underlying2 g1
    obtain ⟨s, e2, _, w2⟩ := DataW.trod_string Try.underlying9 g2
    obtain ⟨f, e3, w3⟩ := trod_float Try.underlying39 g3
    simp at e0 e1 e2 e3
    subst e0; subst e1; subst e2; subst e3
    have b0 := bounds_i64 w0
    have b1 := bounds_i64 w1
    refine ⟨⟨k, i, s, f⟩, ⟨b0.1, b0.2, b1.1, b1.2, w2, ?_⟩, rfl⟩
    simpa [Lit.wf] using w3

theorem lt_of_cell {w : World} {a : Addr} {v : Value} (h : w.cell? a = some v) : a.block < w.heap.size := by
  rcases Nat.lt_or_ge a.block w.heap.size with h1 | h1
  · exact h1
  · simp [World.cell?, Array.getElem?_eq_none h1] at h

theorem open_values {r : Reach} {b0 : Nat} {v : Value} {d : DataW H} {ps : List MemPlace} (hval : Value.okWide Try.prog w r b0 22 v) (hd : DataW.Trod enc Try.prog w base spare held 22 v d ps) :
    ∃ L, ReadV w v L ∧ (∀ x ∈ L, x.ok) ∧ L.length ≤ maxLen ∧ ∀ ao n cap, v = .slice ao n cap → n ≤ cap ∧ cap ≤ maxLen := by
  obtain ⟨a0, l0, c0, rfl⟩ := okWide_slice Try.underlying22 hval
  obtain ⟨fuel, hf⟩ := hd
  rcases Go.Deep.open_slice Try.underlying22 hf with ⟨he, _⟩ | ⟨a, len, cap, m, n, D, Pl, he, hb, hl, hm, hmm, _, hx⟩
  · simp [Value.cells] at he
    obtain ⟨rfl, rfl, rfl⟩ := he
    exact ⟨[], ⟨none, 0, rfl, fun j x hj => by simp at hj⟩, fun x hx => by simp at hx, Nat.zero_le _, fun ao n cap h => by cases h; exact ⟨Nat.le_refl _, Nat.zero_le _⟩⟩
  · simp [Value.cells] at he
    obtain ⟨rfl, rfl, rfl⟩ := he
    have each : ∀ i, i < l0 → ∃ y : V, y.ok ∧ w.cells? base (a.add (i * 4)) 4 = some y.cells := by
      intro i hi
      obtain ⟨cs', h1, h2⟩ := hx i (by rw [hmm]; split <;> omega)
      obtain ⟨y, hy, rfl⟩ := open_elem h2
      rw [value_cells4] at h1
      exact ⟨y, hy, h1⟩
    haveI : Inhabited V := ⟨⟨0, 0, ⟨#[]⟩, 0⟩⟩
    obtain ⟨q, hq⟩ := Go.Deep.choose_lt each
    refine ⟨(List.range l0).map q, ⟨some a, c0, by simp, fun j x hj => ?_⟩, fun x hx => ?_, by simp; omega, fun ao n cap h => by cases h; exact ⟨hl, hm⟩⟩
    · simp only [List.getElem?_map, Option.map_eq_some_iff] at hj
      obtain ⟨i, hi, rfl⟩ := hj
      obtain ⟨hi1, rfl⟩ := List.getElem?_eq_some_iff.1 hi
      rw [List.length_range] at hi1
      rw [List.getElem_range]
      obtain ⟨_, _, hcell⟩ := World.cells?_some (hq j hi1).2
      have e0 := hcell 0 (by omega)
      have e1 := hcell 1 (by omega)
      have e2 := hcell 2 (by omega)
      have e3 := hcell 3 (by omega)
      obtain ⟨b, off, spot⟩ := a
      have hs : spot = none := by
        by_cases hz : j * 4 = 0
        · simpa [Addr.add, hz] using World.cell?_spot e0
        · obtain ⟨_, _, hc0⟩ := World.cells?_some (hq 0 (by omega)).2
          simpa [Addr.add] using World.cell?_spot (hc0 0 (by omega))
      subst hs
      rw [Addr.add_lit, Addr.add_lit] at e0 e1 e2 e3
      exact ⟨b, off, rfl, lt_of_cell e0, e0, e1, e2, e3⟩
    · simp only [List.mem_map, List.mem_range] at hx
      obtain ⟨i, hi, rfl⟩ := hx
      exact (hq i hi).1

end Go.Proofs.Ytmdkfbbagjcboaa
