/-
  Steps that were handed in, opened. Conditions: none.
-/
import Derived.Test.YtelgbigpfiohfaaPlayIn
import Derived.Test.YtelgbigpfiohfaaPosOpen
namespace Go.Proofs.Ytelgbigpfiohfaa
open Go.RowKit Go.ChangeShapes Go.WideShapes
set_option maxRecDepth 1000000

variable {H : Type} {enc : TypeId × Value → H} {w : World} {base : Nat} {spare : Nat → Bool} {held : Bool}

theorem step_struct : ∃ f0 f1 f2 f3 : Field, Try.prog.underlying 45 = some (.struct #[f0, f1, f2, f3]) ∧ (f0.offset = 0 ∧ f1.offset = 1 ∧ f2.offset = 2 ∧ f3.offset = 3) ∧ f0.type = 3 ∧ f1.type = 3 ∧ f2.type = 3 ∧ f3.type = 2 :=
  ⟨_, _, _, _, Try.underlying45, ⟨rfl, rfl, rfl, rfl⟩, rfl, rfl, rfl, rfl⟩

theorem step_cells4 : Try.prog.cellsOf 45 = 4 := by kernel_rfl
theorem int_cells1 : Try.prog.cellsOf 3 = 1 := by kernel_rfl
theorem int64_cells1 : Try.prog.cellsOf 2 = 1 := by kernel_rfl

theorem open_step {n : Nat} {cs : List Value} {x : DataW H × List MemPlace} (h : DataW.trod enc Try.prog w base spare held n 45 cs = some x) :
    ∃ s : Stp, s.ok ∧ cs = [.int .i64 s.what, .int .i64 s.i, .int .i64 s.k, .int .i64 s.id] := by
  obtain ⟨f0, f1, f2, f3, he, ⟨o0, o1, o2, o3⟩, t0, t1, t2, t3⟩ := step_struct
  obtain ⟨xs, k, _, _, hl, hxl, hf⟩ := DataW.trod_struct he h
  rw [step_cells4] at hl
  match xs, hxl, cs, hl with
  | [y0, y1, y2, y3], _, [v0, v1, v2, v3], _ =>
    have g0 := hf 0 f0 rfl
    have g1 := hf 1 f1 rfl
    have g2 := hf 2 f2 rfl
    have g3 := hf 3 f3 rfl
    rw [o0, t0, int_cells1] at g0
    rw [o1, t1, int_cells1] at g1
    rw [o2, t2, int_cells1] at g2
    rw [o3, t3, int64_cells1] at g3
    obtain ⟨a, e0, _, w0⟩ := DataW.trod_int Try.underlying3 g0
    obtain ⟨b, e1, _, w1⟩ := DataW.trod_int Try.underlying3 g1
    obtain ⟨c, e2, _, w2⟩ := DataW.trod_int Try.underlying3 g2
    obtain ⟨d, e3, _, w3⟩ := DataW.trod_int Try.underlying2 g3
    simp at e0 e1 e2 e3
    subst e0; subst e1; subst e2; subst e3
    exact ⟨⟨a, b, c, d⟩, ⟨w0, w1, w2, w3⟩, rfl⟩

theorem open_steps {r : Reach} {b0 : Nat} {v : Value} {d : DataW H} {ps : List MemPlace} (hval : Value.okWide Try.prog w r b0 43 v) (hd : DataW.Trod enc Try.prog w base spare held 43 v d ps) :
    ∃ l, ReadT w v l ∧ ∀ s ∈ l, s.ok := by
  obtain ⟨a0, l0, c0, rfl⟩ := okWide_slice Try.underlying43 hval
  obtain ⟨fuel, hf⟩ := hd
  rcases Go.Deep.open_slice Try.underlying43 hf with ⟨he, _⟩ | ⟨a, len, cap, m, n, D, Pl, he, hb, hl, hm, hmm, _, hx⟩
  · simp [Value.cells] at he
    obtain ⟨rfl, rfl, rfl⟩ := he
    exact ⟨[], ⟨none, 0, rfl, fun j x hj => by simp at hj⟩, by simp⟩
  · simp [Value.cells] at he
    obtain ⟨rfl, rfl, rfl⟩ := he
    have each : ∀ i, i < l0 → ∃ s : Stp, s.ok ∧ w.cells? base (a.add (i * 4)) 4 = some [.int .i64 s.what, .int .i64 s.i, .int .i64 s.k, .int .i64 s.id] := by
      intro i hi
      obtain ⟨cs', h1, h2⟩ := hx i (by rw [hmm]; split <;> omega)
      obtain ⟨s, hs, rfl⟩ := open_step h2
      rw [step_cells4] at h1
      exact ⟨s, hs, h1⟩
    obtain ⟨q, hq⟩ := Go.Deep.choose_lt each
    refine ⟨(List.range l0).map q, ⟨some a, c0, by simp, fun j x hj => ?_⟩, fun x hx => ?_⟩
    · simp only [List.getElem?_map, Option.map_eq_some_iff] at hj
      obtain ⟨i, hi, rfl⟩ := hj
      obtain ⟨hi1, rfl⟩ := List.getElem?_eq_some_iff.1 hi
      rw [List.length_range] at hi1
      rw [List.getElem_range]
      obtain ⟨_, _, hcell⟩ := World.cells?_some (hq j hi1).2
      have e0 := hcell 0 (by omega)
      have e1 := hcell 1 (by omega)
      have e2 := hcell 2 (by omega)
      have e3 := hcell 3 (by omega)
      obtain ⟨b, off, spot⟩ := a
      have hs : spot = none := by
        by_cases hz : j * 4 = 0
        · simpa [Addr.add, hz] using World.cell?_spot e0
        · obtain ⟨_, _, hc0⟩ := World.cells?_some (hq 0 (by omega)).2
          simpa [Addr.add] using World.cell?_spot (hc0 0 (by omega))
      subst hs
      rw [Addr.add_lit, Addr.add_lit] at e0 e1 e2 e3
      exact ⟨b, off, rfl, lt_of_cell e0, e0, e1, e2, e3⟩
    · simp only [List.mem_map, List.mem_range] at hx
      obtain ⟨i, hi, rfl⟩ := hx
      exact (hq i hi).1

end Go.Proofs.Ytelgbigpfiohfaa
