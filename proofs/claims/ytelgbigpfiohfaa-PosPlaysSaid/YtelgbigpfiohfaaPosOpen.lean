/-
  Bytes that were handed in, opened. Conditions: none.
-/
import Derived.Test.YtelgbigpfiohfaaPosMoves
import Derived.Test.YtelgbigpfiohfaaLaw
import Derived.Deep.Slices
namespace Go.Proofs.Ytelgbigpfiohfaa
open Go.RowKit Go.ChangeShapes Go.WideShapes
set_option maxRecDepth 1000000

theorem byte_cells : Try.prog.cellsOf 5 = 1 := by kernel_rfl

theorem lt_of_cell {w : World} {b k : Nat} {x : Value} (h : w.cell? ⟨b, k, none⟩ = some x) : b < w.heap.size := by
  by_cases hb : b < w.heap.size
  · exact hb
  · rw [World.cell?, Array.getElem?_eq_none (by show w.heap.size ≤ b; omega)] at h
    cases h

/-- A slice of bytes that can be read. -/
def ReadU (w : World) (v : Value) (l : List Int) : Prop :=
  ∃ ao cap, v = .slice ao l.length cap ∧ ∀ j x, l[j]? = some x → ∃ b off, ao = some ⟨b, off, none⟩ ∧ b < w.heap.size ∧ w.cell? ⟨b, off + j, none⟩ = some (.int .u8 x)

theorem ReadU.kept {w w' : World} {v : Value} {l : List Int} (h : ReadU w v l) (hs : Same (fun _ => False) w w') : ReadU w' v l := by
  obtain ⟨ao, cap, rfl, hc⟩ := h
  refine ⟨ao, cap, rfl, fun j x hj => ?_⟩
  obtain ⟨b, off, rfl, hb, e0⟩ := hc j x hj
  exact ⟨b, off, rfl, Nat.lt_of_lt_of_le hb hs.size, (World.cell?_of_block (a := ⟨b, _, none⟩) (hs.block b hb id)).trans e0⟩

theorem ReadU.byte {w : World} {ao : Option Addr} {n cap : Nat} {l : List Int} (h : ReadU w (.slice ao n cap) l) {j : Nat} (hj : j < l.length) : ∃ b off, ao = some ⟨b, off, none⟩ ∧ b < w.heap.size ∧ w.cell? ⟨b, off + j, none⟩ = some (.int .u8 l[j]) := by
  obtain ⟨ao', cap', e, hc⟩ := h
  simp only [Value.slice.injEq] at e
  obtain ⟨rfl, -, -⟩ := e
  exact hc j _ (List.getElem?_eq_getElem hj)

variable {H : Type} {enc : TypeId × Value → H} {w : World} {base : Nat} {spare : Nat → Bool} {held : Bool}

theorem open_bytes {r : Reach} {b0 : Nat} {v : Value} {d : DataW H} {ps : List MemPlace} (hval : Value.okWide Try.prog w r b0 34 v) (hd : DataW.Trod enc Try.prog w base spare held 34 v d ps) :
    ∃ l, ReadU w v l ∧ ∀ b ∈ l, 0 ≤ b ∧ b ≤ 255 := by
  obtain ⟨a0, l0, c0, rfl⟩ := okWide_slice Try.underlying34 hval
  obtain ⟨fuel, hf⟩ := hd
  rcases Go.Deep.open_slice Try.underlying34 hf with ⟨he, _⟩ | ⟨a, len, cap, m, n, D, Pl, he, hb, hl, hm, hmm, _, hx⟩
  · simp [Value.cells] at he
    obtain ⟨rfl, rfl, rfl⟩ := he
    exact ⟨[], ⟨none, 0, rfl, fun j x hj => by simp at hj⟩, by simp⟩
  · simp [Value.cells] at he
    obtain ⟨rfl, rfl, rfl⟩ := he
    have each : ∀ i, i < l0 → ∃ y : Int, (0 ≤ y ∧ y ≤ 255) ∧ w.cell? (a.add i) = some (.int .u8 y) := by
      intro i hi
      obtain ⟨cs', h1, h2⟩ := hx i (by rw [hmm]; split <;> omega)
      rw [byte_cells, Nat.mul_one] at h1
      obtain ⟨k, e0, _, w0⟩ := DataW.trod_int Try.underlying5 h2
      subst e0
      exact ⟨k, bounds_u8 w0, cell_of_cells?_one h1⟩
    obtain ⟨q, hq⟩ := Go.Deep.choose_lt each
    refine ⟨(List.range l0).map q, ⟨some a, c0, by simp, fun j x hj => ?_⟩, fun b hb => ?_⟩
    · simp only [List.getElem?_map, Option.map_eq_some_iff] at hj
      obtain ⟨i, hi, rfl⟩ := hj
      obtain ⟨hi1, rfl⟩ := List.getElem?_eq_some_iff.1 hi
      rw [List.length_range] at hi1
      rw [List.getElem_range]
      have e0 := (hq j hi1).2
      obtain ⟨b, off, spot⟩ := a
      have hs : spot = none := by
        have := World.cell?_spot (hq 0 (by omega)).2
        simpa [Addr.add] using this
      subst hs
      rw [Addr.add_lit] at e0
      exact ⟨b, off, rfl, lt_of_cell e0, e0⟩
    · simp only [List.mem_map, List.mem_range] at hb
      obtain ⟨i, hi, rfl⟩ := hb
      exact (hq i hi).1

end Go.Proofs.Ytelgbigpfiohfaa
