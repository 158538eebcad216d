/-
  Arguments that are definitions, entries and bytes, opened. Conditions: none.
-/
import Derived.Test.YtcbapmkipcffgaaDoorKeyAny
namespace Go.Proofs.YtcbapmkipcffgaaDoor
open Go.RowKit Go.ChangeShapes Go.WideShapes
set_option maxRecDepth 1000000

section
variable {H : Type} {enc : TypeId × Value → H} {P : Program} {w : World} {base : Nat} {spare : Nat → Bool} {held : Bool}

theorem trodAll_four' {t0 t1 t2 t3 : TypeId} {args : Array Value} {ds : List (DataW H)} {ps : List MemPlace} (h : DataW.TrodAll enc P w base spare held [t0, t1, t2, t3] args.toList ds ps) :
    ∃ v0 v1 v2 v3 d0 d1 d2 d3 p0 p1 p2 p3, args = #[v0, v1, v2, v3] ∧ ds = [d0, d1, d2, d3] ∧ ps = p0 ++ p1 ++ p2 ++ p3 ∧ DataW.Trod enc P w base spare held t0 v0 d0 p0 ∧ DataW.Trod enc P w base spare held t1 v1 d1 p1 ∧ DataW.Trod enc P w base spare held t2 v2 d2 p2 ∧ DataW.Trod enc P w base spare held t3 v3 d3 p3 := by
  obtain ⟨v0, r0, d0, e0, p0, q0, hargs, rfl, rfl, h0, k0⟩ := trodAll_cons h
  obtain ⟨v1, r1, d1, e1, p1, q1, rfl, rfl, rfl, h1, k1⟩ := trodAll_cons k0
  obtain ⟨v2, r2, d2, e2, p2, q2, rfl, rfl, rfl, h2, k2⟩ := trodAll_cons k1
  obtain ⟨v3, r3, d3, e3, p3, q3, rfl, rfl, rfl, h3, k3⟩ := trodAll_cons k2
  obtain ⟨rfl, rfl, rfl⟩ := trodAll_nil k3
  exact ⟨v0, v1, v2, v3, d0, d1, d2, d3, p0, p1, p2, p3, by cases args; simp_all, rfl, by simp, h0, h1, h2, h3⟩

theorem trodAll_five' {t0 t1 t2 t3 t4 : TypeId} {args : Array Value} {ds : List (DataW H)} {ps : List MemPlace} (h : DataW.TrodAll enc P w base spare held [t0, t1, t2, t3, t4] args.toList ds ps) :
    ∃ v0 v1 v2 v3 v4 d0 d1 d2 d3 d4 p0 p1 p2 p3 p4, args = #[v0, v1, v2, v3, v4] ∧ ds = [d0, d1, d2, d3, d4] ∧ ps = p0 ++ p1 ++ p2 ++ p3 ++ p4 ∧ DataW.Trod enc P w base spare held t0 v0 d0 p0 ∧ DataW.Trod enc P w base spare held t1 v1 d1 p1 ∧ DataW.Trod enc P w base spare held t2 v2 d2 p2 ∧ DataW.Trod enc P w base spare held t3 v3 d3 p3 ∧ DataW.Trod enc P w base spare held t4 v4 d4 p4 := by
  obtain ⟨v0, r0, d0, e0, p0, q0, hargs, rfl, rfl, h0, k0⟩ := trodAll_cons h
  obtain ⟨v1, r1, d1, e1, p1, q1, rfl, rfl, rfl, h1, k1⟩ := trodAll_cons k0
  obtain ⟨v2, r2, d2, e2, p2, q2, rfl, rfl, rfl, h2, k2⟩ := trodAll_cons k1
  obtain ⟨v3, r3, d3, e3, p3, q3, rfl, rfl, rfl, h3, k3⟩ := trodAll_cons k2
  obtain ⟨v4, r4, d4, e4, p4, q4, rfl, rfl, rfl, h4, k4⟩ := trodAll_cons k3
  obtain ⟨rfl, rfl, rfl⟩ := trodAll_nil k4
  exact ⟨v0, v1, v2, v3, v4, d0, d1, d2, d3, d4, p0, p1, p2, p3, p4, by cases args; simp_all, rfl, by simp, h0, h1, h2, h3, h4⟩

theorem trodAll_seven' {t0 t1 t2 t3 t4 t5 t6 : TypeId} {args : Array Value} {ds : List (DataW H)} {ps : List MemPlace} (h : DataW.TrodAll enc P w base spare held [t0, t1, t2, t3, t4, t5, t6] args.toList ds ps) :
    ∃ v0 v1 v2 v3 v4 v5 v6 d0 d1 d2 d3 d4 d5 d6 p0 p1 p2 p3 p4 p5 p6, args = #[v0, v1, v2, v3, v4, v5, v6] ∧ ds = [d0, d1, d2, d3, d4, d5, d6] ∧ ps = p0 ++ p1 ++ p2 ++ p3 ++ p4 ++ p5 ++ p6 ∧ DataW.Trod enc P w base spare held t0 v0 d0 p0 ∧ DataW.Trod enc P w base spare held t1 v1 d1 p1 ∧ DataW.Trod enc P w base spare held t2 v2 d2 p2 ∧ DataW.Trod enc P w base spare held t3 v3 d3 p3 ∧ DataW.Trod enc P w base spare held t4 v4 d4 p4 ∧ DataW.Trod enc P w base spare held t5 v5 d5 p5 ∧ DataW.Trod enc P w base spare held t6 v6 d6 p6 := by
  obtain ⟨v0, r0, d0, e0, p0, q0, hargs, rfl, rfl, h0, k0⟩ := trodAll_cons h
  obtain ⟨v1, r1, d1, e1, p1, q1, rfl, rfl, rfl, h1, k1⟩ := trodAll_cons k0
  obtain ⟨v2, r2, d2, e2, p2, q2, rfl, rfl, rfl, h2, k2⟩ := trodAll_cons k1
  obtain ⟨v3, r3, d3, e3, p3, q3, rfl, rfl, rfl, h3, k3⟩ := trodAll_cons k2
  obtain ⟨v4, r4, d4, e4, p4, q4, rfl, rfl, rfl, h4, k4⟩ := trodAll_cons k3
  obtain ⟨v5, r5, d5, e5, p5, q5, rfl, rfl, rfl, h5, k5⟩ := trodAll_cons k4
  obtain ⟨v6, r6, d6, e6, p6, q6, rfl, rfl, rfl, h6, k6⟩ := trodAll_cons k5
  obtain ⟨rfl, rfl, rfl⟩ := trodAll_nil k6
  exact ⟨v0, v1, v2, v3, v4, v5, v6, d0, d1, d2, d3, d4, d5, d6, p0, p1, p2, p3, p4, p5, p6, by cases args; simp_all, rfl, by simp, h0, h1, h2, h3, h4, h5, h6⟩
end

variable {H : Type} {enc : TypeId × Value → H} {w : World} {base : Nat} {spare : Nat → Bool} {held : Bool}

/-- A number's bounds. -/
abbrev In64 (n : Int) : Prop := -9223372036854775808 ≤ n ∧ n ≤ 9223372036854775807

theorem part_struct : ∃ f0 f1 : Field, Tryd.prog.underlying 81 = some (.struct #[f0, f1]) ∧ f0.offset = 0 ∧ f1.offset = 1 ∧ f0.type = 3 ∧ f1.type = 3 :=
  ⟨_, _, Tryd.underlying81, rfl, rfl, rfl, rfl⟩

theorem part_cells2 : Tryd.prog.cellsOf 81 = 2 := by kernel_rfl
theorem vals_cells1 : Tryd.prog.cellsOf 29 = 1 := by kernel_rfl
theorem parts_cells1 : Tryd.prog.cellsOf 66 = 1 := by kernel_rfl

theorem open_part {n : Nat} {cs : List Value} {x : DataW H × List MemPlace} (h : DataW.trod enc Tryd.prog w base spare held n 81 cs = some x) :
    ∃ p : Int × Int, (In64 p.1 ∧ In64 p.2) ∧ cs = [.int .i64 p.1, .int .i64 p.2] := by
  obtain ⟨f0, f1, he, o0, o1, t0, t1⟩ := part_struct
  obtain ⟨xs, k, _, _, hl, hxl, hf⟩ := DataW.trod_struct he h
  rw [part_cells2] at hl
  match xs, hxl, cs, hl with
  | [y0, y1], _, [v0, v1], _ =>
    have g0 := hf 0 f0 rfl
    have g1 := hf 1 f1 rfl
    rw [o0, t0, cells_int] at g0
    rw [o1, t1, cells_int] at g1
    obtain ⟨a, e0, _, w0⟩ := DataW.trod_int Tryd.underlying3 g0
    obtain ⟨b, e1, _, w1⟩ := DataW.trod_int Tryd.underlying3 g1
    simp at e0 e1
    subst e0; subst e1
    exact ⟨(a, b), ⟨bounds_i64 w0, bounds_i64 w1⟩, rfl⟩

theorem open_parts_at {n : Nat} {v : Value} {x : DataW H × List MemPlace} (h : DataW.trod enc Tryd.prog w base spare held n 66 [v] = some x) :
    ∃ P, ReadP w v P ∧ (∀ p ∈ P, In64 p.1 ∧ In64 p.2) ∧ P.length ≤ maxLen := by
  rcases Go.Deep.open_slice Tryd.underlying66 h with ⟨he, _⟩ | ⟨a, l0, cap, m, n, D, Pl, he, hb, hl, hm, hmm, _, hx⟩
  · simp only [List.cons.injEq, and_true] at he
    subst he
    exact ⟨[], ⟨none, 0, rfl, fun j x hj => by simp at hj⟩, fun x hx => by simp at hx, Nat.zero_le _⟩
  · simp only [List.cons.injEq, and_true] at he
    subst he
    have each : ∀ i, i < l0 → ∃ p : Int × Int, (In64 p.1 ∧ In64 p.2) ∧ w.cells? base (a.add (i * 2)) 2 = some [.int .i64 p.1, .int .i64 p.2] := by
      intro i hi
      obtain ⟨cs', h1, h2⟩ := hx i (by rw [hmm]; split <;> omega)
      obtain ⟨p, hp, rfl⟩ := open_part h2
      rw [part_cells2] at h1
      exact ⟨p, hp, h1⟩
    obtain ⟨q, hq⟩ := Go.Deep.choose_lt each
    refine ⟨(List.range l0).map q, ⟨some a, cap, by simp, fun j x hj => ?_⟩, fun x hx => ?_, by simp; omega⟩
    · simp only [List.getElem?_map, Option.map_eq_some_iff] at hj
      obtain ⟨i, hi, rfl⟩ := hj
      obtain ⟨hi1, rfl⟩ := List.getElem?_eq_some_iff.1 hi
      rw [List.length_range] at hi1
      rw [List.getElem_range]
      obtain ⟨_, _, hcell⟩ := World.cells?_some (hq j hi1).2
      have e0 := hcell 0 (by omega)
      have e1 := hcell 1 (by omega)
      obtain ⟨b, off, spot⟩ := a
      have hs : spot = none := by
        by_cases hz : j * 2 = 0
        · simpa [Addr.add, hz] using World.cell?_spot e0
        · obtain ⟨_, _, hc0⟩ := World.cells?_some (hq 0 (by omega)).2
          simpa [Addr.add] using World.cell?_spot (hc0 0 (by omega))
      subst hs
      rw [Addr.add_lit, Addr.add_lit] at e0 e1
      exact ⟨b, off, rfl, lt_of_cell e0, e0, e1⟩
    · simp only [List.mem_map, List.mem_range] at hx
      obtain ⟨i, hi, rfl⟩ := hx
      exact (hq i hi).1

theorem open_values_at {n : Nat} {v : Value} {x : DataW H × List MemPlace} (h : DataW.trod enc Tryd.prog w base spare held n 29 [v] = some x) :
    ∃ L, ReadV w v L ∧ (∀ x ∈ L, x.ok) ∧ L.length ≤ maxLen := by
  rcases Go.Deep.open_slice Tryd.underlying29 h with ⟨he, _⟩ | ⟨a, l0, cap, m, n, D, Pl, he, hb, hl, hm, hmm, _, hx⟩
  · simp only [List.cons.injEq, and_true] at he
    subst he
    exact ⟨[], ⟨none, 0, rfl, fun j x hj => by simp at hj⟩, fun x hx => by simp at hx, Nat.zero_le _⟩
  · simp only [List.cons.injEq, and_true] at he
    subst he
    have each : ∀ i, i < l0 → ∃ y : V, y.ok ∧ w.cells? base (a.add (i * 4)) 4 = some y.cells := by
      intro i hi
      obtain ⟨cs', h1, h2⟩ := hx i (by rw [hmm]; split <;> omega)
      obtain ⟨y, hy, rfl⟩ := open_elem h2
      rw [value_cells4] at h1
      exact ⟨y, hy, h1⟩
    haveI : Inhabited V := ⟨⟨0, 0, ⟨#[]⟩, 0⟩⟩
    obtain ⟨q, hq⟩ := Go.Deep.choose_lt each
    refine ⟨(List.range l0).map q, ⟨some a, cap, by simp, fun j x hj => ?_⟩, fun x hx => ?_, by simp; omega⟩
    · simp only [List.getElem?_map, Option.map_eq_some_iff] at hj
      obtain ⟨i, hi, rfl⟩ := hj
      obtain ⟨hi1, rfl⟩ := List.getElem?_eq_some_iff.1 hi
      rw [List.length_range] at hi1
      rw [List.getElem_range]
      obtain ⟨_, _, hcell⟩ := World.cells?_some (hq j hi1).2
      have e0 := hcell 0 (by omega)
      have e1 := hcell 1 (by omega)
      have e2 := hcell 2 (by omega)
      have e3 := hcell 3 (by omega)
      obtain ⟨b, off, spot⟩ := a
      have hs : spot = none := by
        by_cases hz : j * 4 = 0
        · simpa [Addr.add, hz] using World.cell?_spot e0
        · obtain ⟨_, _, hc0⟩ := World.cells?_some (hq 0 (by omega)).2
          simpa [Addr.add] using World.cell?_spot (hc0 0 (by omega))
      subst hs
      rw [Addr.add_lit, Addr.add_lit] at e0 e1 e2 e3
      exact ⟨b, off, rfl, lt_of_cell e0, e0, e1, e2, e3⟩
    · simp only [List.mem_map, List.mem_range] at hx
      obtain ⟨i, hi, rfl⟩ := hx
      exact (hq i hi).1

theorem def_struct : ∃ f0 f1 f2 f3 : Field, Tryd.prog.underlying 68 = some (.struct #[f0, f1, f2, f3]) ∧ f0.offset = 0 ∧ f1.offset = 1 ∧ f2.offset = 2 ∧ f3.offset = 3 ∧ f0.type = 9 ∧ f1.type = 3 ∧ f2.type = 66 ∧ f3.type = 3 :=
  ⟨_, _, _, _, Tryd.underlying68, rfl, rfl, rfl, rfl, rfl, rfl, rfl, rfl⟩

theorem def_cells4 : Tryd.prog.cellsOf 68 = 4 := by kernel_rfl

theorem open_def {r : Reach} {b0 : Nat} {v : Value} {d : DataW H} {ps : List MemPlace} (hval : Value.okWide Tryd.prog w r b0 68 v) (hd : DataW.Trod enc Tryd.prog w base spare held 68 v d ps) :
    ∃ name kind parts cmp P, v = defV name kind parts cmp ∧ name.size ≤ maxLen ∧ In64 kind ∧ In64 cmp ∧ ReadP w parts P ∧ (∀ p ∈ P, In64 p.1 ∧ In64 p.2) ∧ P.length ≤ maxLen := by
  obtain ⟨cs, rfl, _⟩ := okWide_struct Tryd.underlying68 hval
  obtain ⟨fuel, hf⟩ := hd
  obtain ⟨l⟩ := cs
  have hf' : DataW.trod enc Tryd.prog w base spare held fuel 68 l = some (d, ps) := by
    simpa only [Value.cells] using hf
  obtain ⟨f0, f1, f2, f3, he, o0, o1, o2, o3, t0, t1, t2, t3⟩ := def_struct
  obtain ⟨xs, k, _, _, hl, hxl, hg⟩ := DataW.trod_struct he hf'
  rw [def_cells4] at hl
  match xs, hxl, l, hl with
  | [y0, y1, y2, y3], _, [v0, v1, v2, v3], _ =>
    have g0 := hg 0 f0 rfl
    have g1 := hg 1 f1 rfl
    have g2 := hg 2 f2 rfl
    have g3 := hg 3 f3 rfl
    rw [o0, t0, cells_string] at g0
    rw [o1, t1, cells_int] at g1
    rw [o2, t2, parts_cells1] at g2
    rw [o3, t3, cells_int] at g3
    obtain ⟨s, e0, _, w0⟩ := DataW.trod_string Tryd.underlying9 g0
    obtain ⟨a, e1, _, w1⟩ := DataW.trod_int Tryd.underlying3 g1
    obtain ⟨b, e3, _, w3⟩ := DataW.trod_int Tryd.underlying3 g3
    simp at e0 e1 e3
    subst e0; subst e1; subst e3
    obtain ⟨P, hP, hPb, hPl⟩ := open_parts_at (v := v2) (by simpa using g2)
    exact ⟨s, a, v2, b, P, rfl, w0, bounds_i64 w1, bounds_i64 w3, hP, hPb, hPl⟩

theorem entry_struct : ∃ f0 f1 : Field, Tryd.prog.underlying 89 = some (.struct #[f0, f1]) ∧ f0.offset = 0 ∧ f1.offset = 1 ∧ f0.type = 29 ∧ f1.type = 2 :=
  ⟨_, _, Tryd.underlying89, rfl, rfl, rfl, rfl⟩

theorem entry_cells2 : Tryd.prog.cellsOf 89 = 2 := by kernel_rfl

theorem open_entry {r : Reach} {b0 : Nat} {v : Value} {d : DataW H} {ps : List MemPlace} (hval : Value.okWide Tryd.prog w r b0 89 v) (hd : DataW.Trod enc Tryd.prog w base spare held 89 v d ps) :
    ∃ vs id L, v = .agg #[vs, .int .i64 id] ∧ In64 id ∧ ReadV w vs L ∧ (∀ x ∈ L, x.ok) ∧ L.length ≤ maxLen := by
  obtain ⟨cs, rfl, _⟩ := okWide_struct Tryd.underlying89 hval
  obtain ⟨fuel, hf⟩ := hd
  obtain ⟨l⟩ := cs
  have hf' : DataW.trod enc Tryd.prog w base spare held fuel 89 l = some (d, ps) := by
    simpa only [Value.cells] using hf
  obtain ⟨f0, f1, he, o0, o1, t0, t1⟩ := entry_struct
  obtain ⟨xs, k, _, _, hl, hxl, hg⟩ := DataW.trod_struct he hf'
  rw [entry_cells2] at hl
  match xs, hxl, l, hl with
  | [y0, y1], _, [v0, v1], _ =>
    have g0 := hg 0 f0 rfl
    have g1 := hg 1 f1 rfl
    rw [o0, t0, vals_cells1] at g0
    rw [o1, t1, cells_int64] at g1
    obtain ⟨a, e1, _, w1⟩ := DataW.trod_int Tryd.underlying2 g1
    simp at e1
    subst e1
    obtain ⟨L, hL, hok, hlen⟩ := open_values_at (v := v0) (by simpa using g0)
    exact ⟨v0, a, L, rfl, bounds_i64 w1, hL, hok, hlen⟩

theorem byte_cells : Tryd.prog.cellsOf 5 = 1 := by kernel_rfl

/-- A slice of bytes that can be read. -/
def ReadB (w : World) (v : Value) (l : List UInt8) : Prop :=
  ∃ ao cap, v = .slice ao l.length cap ∧ ∀ j x, l[j]? = some x → ∃ b off, ao = some ⟨b, off, none⟩ ∧ b < w.heap.size ∧ w.cell? ⟨b, off + j, none⟩ = some (.int .u8 (x.toNat : Int))

theorem ReadB.same {w w' : World} {v : Value} {l : List UInt8} (h : ReadB w v l) (hs : Same (fun _ => False) w w') : ReadB w' v l := by
  obtain ⟨ao, cap, rfl, hc⟩ := h
  refine ⟨ao, cap, rfl, fun j x hj => ?_⟩
  obtain ⟨b, off, rfl, hb, e0⟩ := hc j x hj
  exact ⟨b, off, rfl, Nat.lt_of_lt_of_le hb hs.size, (World.cell?_of_block (a := ⟨b, _, none⟩) (hs.block b hb id)).trans e0⟩

theorem open_bytes {r : Reach} {b0 : Nat} {v : Value} {d : DataW H} {ps : List MemPlace} (hval : Value.okWide Tryd.prog w r b0 86 v) (hd : DataW.Trod enc Tryd.prog w base spare held 86 v d ps) :
    ∃ l, ReadB w v l ∧ l.length ≤ maxLen := by
  obtain ⟨a0, l0, c0, rfl⟩ := okWide_slice Tryd.underlying86 hval
  obtain ⟨fuel, hf⟩ := hd
  rcases Go.Deep.open_slice Tryd.underlying86 hf with ⟨he, _⟩ | ⟨a, len, cap, m, n, D, Pl, he, hb, hl, hm, hmm, _, hx⟩
  · simp [Value.cells] at he
    obtain ⟨rfl, rfl, rfl⟩ := he
    exact ⟨[], ⟨none, 0, rfl, fun j x hj => by simp at hj⟩, Nat.zero_le _⟩
  · simp [Value.cells] at he
    obtain ⟨rfl, rfl, rfl⟩ := he
    have each : ∀ i, i < l0 → ∃ y : UInt8, w.cell? (a.add i) = some (.int .u8 (y.toNat : Int)) := by
      intro i hi
      obtain ⟨cs', h1, h2⟩ := hx i (by rw [hmm]; split <;> omega)
      rw [byte_cells, Nat.mul_one] at h1
      obtain ⟨k, e0, _, w0⟩ := DataW.trod_int Tryd.underlying5 h2
      subst e0
      have hb := bounds_u8 w0
      refine ⟨UInt8.ofNat k.toNat, ?_⟩
      rw [cell_of_cells?_one h1]
      congr 2
      rw [UInt8.toNat_ofNat']
      omega
    haveI : Inhabited UInt8 := ⟨0⟩
    obtain ⟨q, hq⟩ := Go.Deep.choose_lt each
    refine ⟨(List.range l0).map q, ⟨some a, c0, by simp, fun j x hj => ?_⟩, by simp; omega⟩
    simp only [List.getElem?_map, Option.map_eq_some_iff] at hj
    obtain ⟨i, hi, rfl⟩ := hj
    obtain ⟨hi1, rfl⟩ := List.getElem?_eq_some_iff.1 hi
    rw [List.length_range] at hi1
    rw [List.getElem_range]
    have e0 := hq j hi1
    obtain ⟨b, off, spot⟩ := a
    have hs : spot = none := by
      have := World.cell?_spot (hq 0 (by omega))
      simpa [Addr.add] using this
    subst hs
    rw [Addr.add_lit] at e0
    exact ⟨b, off, rfl, lt_of_cell e0, e0⟩

end Go.Proofs.YtcbapmkipcffgaaDoor
