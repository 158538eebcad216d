/-
  hook.Extract: by what the extractor does. Conditions: none but rows of at most 1000 values.
-/
import Derived.Test.YtgfmemggfbgjeaaGreatDoorM30
import Derived.Test.YtgfmemggfbgjeaaGreatDoorM28
import Derived.Deep.RegionHeld3
import Derived.Deep.RegionLaw
namespace Go.Proofs.YtgfmemggfbgjeaaGreatDoor
open Go.RowKit Go.Extern.Stop Go.Stop Go.Extern Go.Lib
set_option maxRecDepth 1000000

/-- What the closure makes of it. -/
def CallV (bo : Nat) (w2 : World) (e0 e : Ending) (w' : World) : Prop :=
  (∃ (y : V) (er : Value), e0 = .returned (.tuple #[y.val, er]) ∧ e = .returned er ∧ Same (fun k => k = bo) w2 w' ∧ w'.heap[bo]? = some y.obj) ∨ ∃ c, e0 = .panicked c ∧ e = .panicked c ∧ w' = w2

theorem vobj_free {w : World} {b : Nat} {x : V} (h : w.heap[b]? = some x.obj) (o : Nat) : w.frozen? ⟨b, o, none⟩ = false := by
  simp [World.frozen?, h]

theorem ocell {w w' : World} {a : Addr} {v : Value} {F : Nat → Prop} (hs : Same F w w') (h : w.cell? a = some v) (hn : ¬ F a.block) : w'.cell? a = some v := by
  have hlt : a.block < w.heap.size := by
    rcases Nat.lt_or_ge a.block w.heap.size with h1 | h1
    · exact h1
    · simp [World.cell?, Array.getElem?_eq_none h1] at h
  exact (World.cell?_of_block (hs.block _ hlt hn)).trans h

theorem cell_off {w : World} {g i b : Nat} {u v : Value} (h : w.cell? ⟨b, 0, none⟩ = some v) (hb : b ≠ g) : (w.setCell ⟨g, i, none⟩ u).cell? ⟨b, 0, none⟩ = some v :=
  (World.cell?_of_block (Below.heap_setCell _ _ _ _ hb)).trans h

theorem cell_off4 {w : World} {g b : Nat} {u0 u1 u2 u3 v : Value} (h : w.cell? ⟨b, 0, none⟩ = some v) (hb : b ≠ g) : ((((w.setCell ⟨g, 0, none⟩ u0).setCell ⟨g, 1, none⟩ u1).setCell ⟨g, 2, none⟩ u2).setCell ⟨g, 3, none⟩ u3).cell? ⟨b, 0, none⟩ = some v :=
  cell_off (cell_off (cell_off (cell_off h hb) hb) hb) hb

theorem own_down {w : World} {B B' n : Nat} {x : Value} {xs : List Value} {e : TypeId} {size : Nat} (h : w.ownsRow B e size x n xs) (hB : B' ≤ B) : w.ownsRow B' e size x n xs :=
  ⟨h.1, h.2.imp id fun ⟨g, cap, cur, a, b, c⟩ => ⟨g, cap, cur, a, Nat.le_trans hB b, c⟩⟩

theorem tuple2_snd {x y a b : Value} (h : Ending.returned (.tuple #[x, a]) = .returned (.tuple #[y, b])) : a = b := by
  simp only [Ending.returned.injEq, Value.tuple.injEq, Array.mk.injEq, List.cons.injEq, and_true] at h
  exact h.2

theorem tuple2_val {x y : V} {a b : Value} (h : Ending.returned (.tuple #[x.val, a]) = .returned (.tuple #[y.val, b])) : x = y := by
  simp only [Ending.returned.injEq, Value.tuple.injEq, Array.mk.injEq, List.cons.injEq, and_true, Value.agg.injEq, Value.int.injEq, Value.string.injEq, Value.float.injEq, true_and] at h
  obtain ⟨⟨h1, h2, h3, h4⟩, _⟩ := h
  cases x; cases y
  simp only at h1 h2 h3 h4
  simp [h1, h2, h3, h4]

theorem own_fresh {w : World} {base n k : Nat} {x : Value} {xs : List Value} {e : TypeId} {size : Nat} (h : w.ownsRow base e size x n xs) (hk : k < base) : x.ownBlock ≠ some k := fun e => by
  have := (h.lt k e).1
  omega

abbrev V.nil : V := ⟨0, 0, ⟨#[]⟩, 0⟩

/-- The end of a walk whose first result, a value, lies in a cell. -/
theorem vret {fn : Func} {p u : Tmp} {a : Act} {W : World} {x : V} {b : Nat} {v : Value} {R : Ending → World → Prop} (hres : fn.results = #[.cell p 39, .tmp u]) (hp : a.tmps.getD p undef = .pointer (some ⟨b, 0, none⟩)) (hb : W.heap[b]? = some x.obj) (hu : a.tmps.getD u undef = v)
    (hd : a.defers = []) (hR : R (.returned (.tuple #[x.val, v])) W) : bodyPost Tryz.prog fn R .ret a W := by
  obtain ⟨e0, e1, e2, e3⟩ := obj_cells hb
  refine bodyPost_ret ?_ hd hR
  rw [results_cell_tmp hres, hp, hu]
  simp [go_sem, e0, e1, e2, e3]

abbrev vset4 (W : World) (p : Nat) (x : V) : World :=
  (((W.setCell ⟨p, 0, none⟩ (.int .i64 x.k)).setCell ⟨p, 1, none⟩ (.int .i64 x.i)).setCell ⟨p, 2, none⟩ (.string x.s)).setCell ⟨p, 3, none⟩ (.float .f64 x.f)

theorem vset4_obj {W : World} {p : Nat} {y : V} (h : W.heap[p]? = some y.obj) (x : V) : (vset4 W p x).heap[p]? = some x.obj := vset_at (vset_at (vset_at (vset_at h)))

theorem vset4_same {F : Nat → Prop} {w W : World} {p : Nat} (h : Same F w W) (hp : p < w.heap.size → F p) (x : V) : Same F w (vset4 W p x) :=
  (((h.setCell (p := ⟨p, 0, none⟩) hp _).setCell (p := ⟨p, 1, none⟩) hp _).setCell (p := ⟨p, 2, none⟩) hp _).setCell (p := ⟨p, 3, none⟩) hp _

/-- What Extract tells, by what the user's code did. -/
def ExtTold (wh : ByteArray) (e0 e : Ending) (w' : World) : Prop :=
  (∃ y : V, e0 = .returned (.tuple #[y.val, .nilIface]) ∧ isV y = true ∧ e = .returned (.tuple #[y.val, .nilIface])) ∨
  (∃ (y : V) (p : Nat), e0 = .returned (.tuple #[y.val, .nilIface]) ∧ isV y = false ∧ e = .returned (.tuple #[V.nil.val, .iface 97 (.pointer (some ⟨p, 0, none⟩))]) ∧ w'.heap[p]? = some (faultObj wh (.iface 65 (.int .i64 10)) .nilIface)) ∨
  (∃ (y : V) (D : TypeId) (z : Value) (p : Nat), e0 = .returned (.tuple #[y.val, .iface D z]) ∧ e = .returned (.tuple #[V.nil.val, .iface 97 (.pointer (some ⟨p, 0, none⟩))]) ∧ w'.heap[p]? = some (faultObj wh (.iface D z) .nilIface)) ∨
  (∃ (T : TypeId) (z : Value) (p : Nat), e0 = .panicked [{ v := .iface T z, recovered := false }] ∧ e = .returned (.tuple #[V.nil.val, .iface 97 (.pointer (some ⟨p, 0, none⟩))]) ∧ w'.heap[p]? = some (faultObj wh .nilIface (.iface T z)))

/-- The four blocks that Extract lays. -/
abbrev extW (w : World) (g : FuncId) (caps : Array Value) (vs : Value) : World :=
  (((w.alloc (.cells #[.func (.func g) #[] caps] 89)).alloc (.cells #[vs] 34)).alloc V.nil.obj).alloc V.nil.obj

theorem extW_size (w : World) (g : FuncId) (caps : Array Value) (vs : Value) : (extW w g caps vs).heap.size = w.heap.size + 4 := by simp [extW]
theorem extW_same (w : World) (g : FuncId) (caps : Array Value) (vs : Value) : Same (fun _ => False) w (extW w g caps vs) := ((((Same.refl _ w).alloc _).alloc _).alloc _).alloc _
theorem extW_f (w : World) (g : FuncId) (caps : Array Value) (vs : Value) : One (extW w g caps vs) w.heap.size (.func (.func g) #[] caps) 89 := (((One.new w _ _).alloc _).alloc _).alloc _
theorem extW_v (w : World) (g : FuncId) (caps : Array Value) (vs : Value) : One (extW w g caps vs) (w.heap.size + 1) vs 34 := by
  have := ((One.new (w.alloc (.cells #[.func (.func g) #[] caps] 89)) vs 34).alloc V.nil.obj).alloc V.nil.obj
  simpa using this
theorem extW_r (w : World) (g : FuncId) (caps : Array Value) (vs : Value) : (extW w g caps vs).heap[w.heap.size + 1 + 1]? = some V.nil.obj := by
  have := ((Same.refl (fun _ => False) (((w.alloc (.cells #[.func (.func g) #[] caps] 89)).alloc (.cells #[vs] 34)).alloc V.nil.obj)).alloc V.nil.obj).obj (heap_alloc_new ((w.alloc (.cells #[.func (.func g) #[] caps] 89)).alloc (.cells #[vs] 34)) V.nil.obj) id
  simpa using this
theorem extW_o (w : World) (g : FuncId) (caps : Array Value) (vs : Value) : (extW w g caps vs).heap[w.heap.size + 1 + 1 + 1]? = some V.nil.obj := by
  have := heap_alloc_new (((w.alloc (.cells #[.func (.func g) #[] caps] 89)).alloc (.cells #[vs] 34)).alloc V.nil.obj) V.nil.obj
  simpa using this

end Go.Proofs.YtgfmemggfbgjeaaGreatDoor
