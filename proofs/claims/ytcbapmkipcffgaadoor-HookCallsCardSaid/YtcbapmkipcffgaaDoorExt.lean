/-
  hook.Extract: by what the extractor does. Conditions: none but rows of at most 1000 values.
-/
import Derived.Test.YtcbapmkipcffgaaDoorRun
import Derived.Test.YtcbapmkipcffgaaDoorHCopy
import Derived.Deep.RegionHeld3
import Derived.Deep.RegionLaw
namespace Go.Proofs.YtcbapmkipcffgaaDoor
open Go.RowKit Go.Extern.Stop Go.Stop Go.Extern Go.Lib
set_option maxRecDepth 1000000

/-- What user code that tells a value ends with. -/
def TellsV (e : Ending) : Prop := (∃ (y : V) (er : Value), y.ok ∧ e = .returned (.tuple #[y.val, er]) ∧ (er = .nilIface ∨ ∃ D z, er = .iface D z)) ∨ ∃ T z, T ≠ 114 ∧ e = .panicked [{ v := .iface T z, recovered := false }]

/-- What the closure makes of it. -/
def CallV (bo : Nat) (w2 : World) (e0 e : Ending) (w' : World) : Prop :=
  (∃ (y : V) (er : Value), e0 = .returned (.tuple #[y.val, er]) ∧ e = .returned er ∧ Same (fun k => k = bo) w2 w' ∧ w'.heap[bo]? = some y.obj) ∨ ∃ c, e0 = .panicked c ∧ e = .panicked c ∧ w' = w2

theorem vset_at {W : World} {p o : Nat} {cs : Array Value} {t : TypeId} {fr : Nat × Nat} {u : Value} (h : W.heap[p]? = some (.cells cs t fr)) : (W.setCell ⟨p, o, none⟩ u).heap[p]? = some (.cells (cs.setIfInBounds o u) t fr) := by
  simp [World.setCell, Array.getElem?_modify, h]

theorem vobj_free {w : World} {b : Nat} {x : V} (h : w.heap[b]? = some x.obj) (o : Nat) : w.frozen? ⟨b, o, none⟩ = false := by
  simp [World.frozen?, h]

theorem ocell {w w' : World} {a : Addr} {v : Value} {F : Nat → Prop} (hs : Same F w w') (h : w.cell? a = some v) (hn : ¬ F a.block) : w'.cell? a = some v := by
  have hlt : a.block < w.heap.size := by
    rcases Nat.lt_or_ge a.block w.heap.size with h1 | h1
    · exact h1
    · simp [World.cell?, Array.getElem?_eq_none h1] at h
  exact (World.cell?_of_block (hs.block _ hlt hn)).trans h

theorem cell_off {w : World} {g i b : Nat} {u v : Value} (h : w.cell? ⟨b, 0, none⟩ = some v) (hb : b ≠ g) : (w.setCell ⟨g, i, none⟩ u).cell? ⟨b, 0, none⟩ = some v :=
  (World.cell?_of_block (Below.heap_setCell _ _ _ _ hb)).trans h

theorem cell_off4 {w : World} {g b : Nat} {u0 u1 u2 u3 v : Value} (h : w.cell? ⟨b, 0, none⟩ = some v) (hb : b ≠ g) : ((((w.setCell ⟨g, 0, none⟩ u0).setCell ⟨g, 1, none⟩ u1).setCell ⟨g, 2, none⟩ u2).setCell ⟨g, 3, none⟩ u3).cell? ⟨b, 0, none⟩ = some v :=
  cell_off (cell_off (cell_off (cell_off h hb) hb) hb) hb

theorem own_down {w : World} {B B' n : Nat} {x : Value} {xs : List Value} {e : TypeId} {size : Nat} (h : w.ownsRow B e size x n xs) (hB : B' ≤ B) : w.ownsRow B' e size x n xs :=
  ⟨h.1, h.2.imp id fun ⟨g, cap, cur, a, b, c⟩ => ⟨g, cap, cur, a, Nat.le_trans hB b, c⟩⟩

theorem tuple2_snd {x y a b : Value} (h : Ending.returned (.tuple #[x, a]) = .returned (.tuple #[y, b])) : a = b := by
  simp only [Ending.returned.injEq, Value.tuple.injEq, Array.mk.injEq, List.cons.injEq, and_true] at h
  exact h.2

theorem tuple2_val {x y : V} {a b : Value} (h : Ending.returned (.tuple #[x.val, a]) = .returned (.tuple #[y.val, b])) : x = y := by
  simp only [Ending.returned.injEq, Value.tuple.injEq, Array.mk.injEq, List.cons.injEq, and_true, Value.agg.injEq, Value.int.injEq, Value.string.injEq, Value.float.injEq, true_and] at h
  obtain ⟨⟨h1, h2, h3, h4⟩, _⟩ := h
  cases x; cases y
  simp only at h1 h2 h3 h4
  simp [h1, h2, h3, h4]

theorem own_fresh {w : World} {base n k : Nat} {x : Value} {xs : List Value} {e : TypeId} {size : Nat} (h : w.ownsRow base e size x n xs) (hk : k < base) : x.ownBlock ≠ some k := fun e => by
  have := (h.lt k e).1
  omega

set_option maxHeartbeats 8000000 in
theorem ext1_any {w : World} {bf bv bo : Nat} {g : FuncId} {caps : Array Value} {vs : Value} {L : List V} {F : Nat → Prop} {R : World → Ending → World → Prop} {z : V}
    (hg : ∀ (args : Array Value) (w : World), (callFunc g args).run Tryd.prog w = .ok (.enter g args) w)
    (hbf : One w bf (.func (.func g) #[] caps) 92) (hbv : One w bv vs 29) (hbo : w.heap[bo]? = some z.obj) (hv : ReadV w vs L) (hn : L.length ≤ 1000)
    (hFo : ¬ F bo)
    (hf : ∀ w1 x, Same (fun _ => False) w w1 → w1.ownsRow w.heap.size 38 4 x L.length (vals L) → Calls Tryd.prog g (#[x] ++ caps) w1 fun e w2 => TellsV e ∧ Same (fun k => F k ∨ x.ownBlock = some k) w1 w2 ∧ R w1 e w2) :
    Calls Tryd.prog 63 #[.pointer (some ⟨bf, 0, none⟩), .pointer (some ⟨bv, 0, none⟩), .pointer (some ⟨bo, 0, none⟩)] w fun e w' =>
      ∃ w1 e0 w2, Same (fun _ => False) w w1 ∧ R w1 e0 w2 ∧ TellsV e0 ∧ Same F w w2 ∧ CallV bo w2 e0 e w' := by
  have c0 := hbf.cell
  have c1 := hbv.cell
  have hcl := fun (w' : World) (h : ReadV w' vs L) => clone_any h hn
  have e18 := hg
  have lf := hbf.lt
  have lv := hbv.lt
  have lo := lt_of_block hbo
  have HCL := Lib.hid hcl; have HF := Lib.hid hf; have HV := Lib.hid hv; have HBO := Lib.hid hbo
  clear hcl hf hv hbo hbf hbv hg
  go_enter Tryd.func63, Tryd.ntmps63
  go_wp2_with fail
  go_region_law (first
      | (go_simp; refine (HCL.out _ (HV.out.same ((Same.refl _ w).drew))).mono ?_; rintro e w1 ⟨x, rfl, hx, hs1⟩; change w1.ownsRow w.heap.size _ 4 x _ _ at hx; have hd1 : Same (fun _ => False) w w1 := ((Same.refl _ w).drew).trans hs1 (fun _ _ h => h); have k0 := ocell hd1 c0 id; have k1 := ocell hd1 c1 id)
      | (go_simp; refine (HF.out _ _ hd1 hx).mono ?_; rintro e w2 ⟨ht, hs2, hr⟩; have hw2 : Same F w w2 := (hd1.weaken (fun _ _ h => h.elim)).trans hs2 (fun k hk h => h.elim id (fun h => absurd h (own_fresh hx hk))); rcases ht with ⟨y, er, hy, rfl, her⟩ | ⟨T, q, hT, rfl⟩; rotate_left; exact ⟨rfl, w1, _, w2, hd1, hr, Or.inr ⟨T, q, hT, rfl⟩, hw2, Or.inr ⟨_, rfl, rfl, rfl⟩⟩; have hob : w2.heap[bo]? = some z.obj := hw2.obj HBO.out hFo; obtain ⟨o0, o1, o2, o3⟩ := obj_cells hob; have of := vobj_free hob))
  all_goals
    have hend : CallV bo w2 (.returned (.tuple #[y.val, er])) (.returned er) ((((w2.setCell ⟨bo, 0, none⟩ (.int .i64 y.k)).setCell ⟨bo, 1, none⟩ (.int .i64 y.i)).setCell ⟨bo, 2, none⟩ (.string y.s)).setCell ⟨bo, 3, none⟩ (.float .f64 y.f)) :=
      Or.inl ⟨y, er, rfl, rfl, ((((Same.refl (fun k => k = bo) w2).setCell (p := ⟨bo, 0, none⟩) (fun _ => rfl) _).setCell (p := ⟨bo, 1, none⟩) (fun _ => rfl) _).setCell (p := ⟨bo, 2, none⟩) (fun _ => rfl) _).setCell (p := ⟨bo, 3, none⟩) (fun _ => rfl) _, vset_at (vset_at (vset_at (vset_at hob)))⟩
    have HEND := Lib.hid hend; have HR := Lib.hid hr; have HW := Lib.hid hw2; have HD := Lib.hid hd1
    have HT : Hid (TellsV (.returned (.tuple #[y.val, er]))) := Lib.hid (Or.inl ⟨y, er, hy, rfl, her⟩)
    clear hend hr hw2 hd1 hs1 hs2 hx k0 k1 o0 o1 o2 o3 of hob c0 c1
    go_wp2_with fail
    go_ret
    exact ⟨w1, _, w2, HD.out, HR.out, HT.out, HW.out, HEND.out⟩

abbrev V.nil : V := ⟨0, 0, ⟨#[]⟩, 0⟩

/-- The end of a walk whose first result, a value, lies in a cell. -/
theorem vret {fn : Func} {p u : Tmp} {a : Act} {W : World} {x : V} {b : Nat} {v : Value} {R : Ending → World → Prop} (hres : fn.results = #[.cell p 38, .tmp u]) (hp : a.tmps.getD p undef = .pointer (some ⟨b, 0, none⟩)) (hb : W.heap[b]? = some x.obj) (hu : a.tmps.getD u undef = v)
    (hd : a.defers = []) (hR : R (.returned (.tuple #[x.val, v])) W) : bodyPost Tryd.prog fn R .ret a W := by
  obtain ⟨e0, e1, e2, e3⟩ := obj_cells hb
  refine bodyPost_ret ?_ hd hR
  rw [results_cell_tmp hres, hp, hu]
  simp [go_sem, e0, e1, e2, e3]

abbrev vset4 (W : World) (p : Nat) (x : V) : World :=
  (((W.setCell ⟨p, 0, none⟩ (.int .i64 x.k)).setCell ⟨p, 1, none⟩ (.int .i64 x.i)).setCell ⟨p, 2, none⟩ (.string x.s)).setCell ⟨p, 3, none⟩ (.float .f64 x.f)

theorem vset4_obj {W : World} {p : Nat} {y : V} (h : W.heap[p]? = some y.obj) (x : V) : (vset4 W p x).heap[p]? = some x.obj := vset_at (vset_at (vset_at (vset_at h)))

theorem vset4_same {F : Nat → Prop} {w W : World} {p : Nat} (h : Same F w W) (hp : p < w.heap.size → F p) (x : V) : Same F w (vset4 W p x) :=
  (((h.setCell (p := ⟨p, 0, none⟩) hp _).setCell (p := ⟨p, 1, none⟩) hp _).setCell (p := ⟨p, 2, none⟩) hp _).setCell (p := ⟨p, 3, none⟩) hp _

/-- What Extract tells, by what the user's code did. -/
def ExtTold (wh : ByteArray) (e0 e : Ending) (w' : World) : Prop :=
  (∃ y : V, e0 = .returned (.tuple #[y.val, .nilIface]) ∧ isV y = true ∧ e = .returned (.tuple #[y.val, .nilIface])) ∨
  (∃ (y : V) (p : Nat), e0 = .returned (.tuple #[y.val, .nilIface]) ∧ isV y = false ∧ e = .returned (.tuple #[V.nil.val, .iface 48 (.pointer (some ⟨p, 0, none⟩))]) ∧ w'.heap[p]? = some (faultObj wh (.iface 46 (.int .i64 10)) .nilIface)) ∨
  (∃ (y : V) (D : TypeId) (z : Value) (p : Nat), e0 = .returned (.tuple #[y.val, .iface D z]) ∧ e = .returned (.tuple #[V.nil.val, .iface 48 (.pointer (some ⟨p, 0, none⟩))]) ∧ w'.heap[p]? = some (faultObj wh (.iface D z) .nilIface)) ∨
  (∃ (T : TypeId) (z : Value) (p : Nat), e0 = .panicked [{ v := .iface T z, recovered := false }] ∧ e = .returned (.tuple #[V.nil.val, .iface 48 (.pointer (some ⟨p, 0, none⟩))]) ∧ w'.heap[p]? = some (faultObj wh .nilIface (.iface T z)))

theorem ext1_enter (args : Array Value) (w : World) : (callFunc 63 args).run Tryd.prog w = .ok (.enter 63 args) w := by kernel_rfl

/-- The four blocks that Extract lays. -/
abbrev extW (w : World) (g : FuncId) (caps : Array Value) (vs : Value) : World :=
  (((w.alloc (.cells #[.func (.func g) #[] caps] 92)).alloc (.cells #[vs] 29)).alloc V.nil.obj).alloc V.nil.obj

theorem extW_size (w : World) (g : FuncId) (caps : Array Value) (vs : Value) : (extW w g caps vs).heap.size = w.heap.size + 4 := by simp [extW]
theorem extW_same (w : World) (g : FuncId) (caps : Array Value) (vs : Value) : Same (fun _ => False) w (extW w g caps vs) := ((((Same.refl _ w).alloc _).alloc _).alloc _).alloc _
theorem extW_f (w : World) (g : FuncId) (caps : Array Value) (vs : Value) : One (extW w g caps vs) w.heap.size (.func (.func g) #[] caps) 92 := (((One.new w _ _).alloc _).alloc _).alloc _
theorem extW_v (w : World) (g : FuncId) (caps : Array Value) (vs : Value) : One (extW w g caps vs) (w.heap.size + 1) vs 29 := by
  have := ((One.new (w.alloc (.cells #[.func (.func g) #[] caps] 92)) vs 29).alloc V.nil.obj).alloc V.nil.obj
  simpa using this
theorem extW_r (w : World) (g : FuncId) (caps : Array Value) (vs : Value) : (extW w g caps vs).heap[w.heap.size + 1 + 1]? = some V.nil.obj := by
  have := ((Same.refl (fun _ => False) (((w.alloc (.cells #[.func (.func g) #[] caps] 92)).alloc (.cells #[vs] 29)).alloc V.nil.obj)).alloc V.nil.obj).obj (heap_alloc_new ((w.alloc (.cells #[.func (.func g) #[] caps] 92)).alloc (.cells #[vs] 29)) V.nil.obj) id
  simpa using this
theorem extW_o (w : World) (g : FuncId) (caps : Array Value) (vs : Value) : (extW w g caps vs).heap[w.heap.size + 1 + 1 + 1]? = some V.nil.obj := by
  have := heap_alloc_new (((w.alloc (.cells #[.func (.func g) #[] caps] 92)).alloc (.cells #[vs] 29)).alloc V.nil.obj) V.nil.obj
  simpa using this

/-- Run of the closure: what it tells, what has turned. -/
theorem ext_run {w : World} {wh : ByteArray} {g : FuncId} {caps : Array Value} {vs : Value} {L : List V} {F : Nat → Prop} {R : World → Ending → World → Prop}
    (hg : ∀ (args : Array Value) (w : World), (callFunc g args).run Tryd.prog w = .ok (.enter g args) w) (hv : ReadV w vs L) (hn : L.length ≤ 1000) (hF : ∀ k, F k → k < w.heap.size)
    (hf : ∀ w1 x, Same (fun _ => False) w w1 → w1.ownsRow (w.heap.size + 7) 38 4 x L.length (vals L) → Calls Tryd.prog g (#[x] ++ caps) w1 fun e w2 => TellsV e ∧ Same (fun k => F k ∨ x.ownBlock = some k) w1 w2 ∧ R w1 e w2) :
    Calls Tryd.prog 20 #[.string wh, .func (.func 63) #[] #[.pointer (some ⟨w.heap.size, 0, none⟩), .pointer (some ⟨w.heap.size + 1, 0, none⟩), .pointer (some ⟨w.heap.size + 1 + 1 + 1, 0, none⟩)]] (extW w g caps vs) fun e w' =>
      ∃ w1 e0 w2 e1 w3, Same (fun _ => False) w w1 ∧ w.heap.size + 7 ≤ w1.heap.size ∧ R w1 e0 w2 ∧ TellsV e0 ∧ Same F w w2 ∧ w2.heap[w.heap.size + 1 + 1]? = some V.nil.obj ∧ w1.heap.size ≤ w2.heap.size ∧ CallV (w.heap.size + 1 + 1 + 1) w2 e0 e1 w3 ∧ Same (fun k => w.heap.size + 4 ≤ k ∧ k < w.heap.size + 7) w3 w' ∧ Told wh e1 e w' := by
  have hsz := extW_size w g caps vs
  have hs := extW_same w g caps vs
  have hr := run3_same (extW w g caps vs) wh
  have hs3 : Same (fun _ => False) w (run3 (extW w g caps vs) wh) := hs.trans hr (fun _ _ h => h)
  have hsz3 : (run3 (extW w g caps vs) wh).heap.size = w.heap.size + 7 := by rw [run3_size, hsz]
  have h1 := ext1_any (R := fun w1 e w2 => w.heap.size + 7 ≤ w1.heap.size ∧ w1.heap.size ≤ w2.heap.size ∧ R w1 e w2) hg (hr.one (extW_f w g caps vs) id) (hr.one (extW_v w g caps vs) id) (hr.obj (extW_o w g caps vs) id) (hv.same hs3) hn (F := F) (fun h => by have := hF _ h; omega) (fun w1 x k1 k2 => by
    rw [hsz3] at k2
    refine (hf w1 x (hs3.trans k1 (fun _ _ h => h)) k2).mono fun e w2 ⟨q1, q2, q3⟩ => ⟨q1, q2, ?_, q2.size, q3⟩
    have := k1.size
    omega)
  refine (run_any (wh := wh) (w := extW w g caps vs) (F := fun k => F k ∨ k = w.heap.size + 1 + 1 + 1)
    (R := fun e1 w3 => ∃ w1 e0 w2, Same (fun _ => False) w w1 ∧ w.heap.size + 7 ≤ w1.heap.size ∧ R w1 e0 w2 ∧ TellsV e0 ∧ Same F w w2 ∧ w2.heap[w.heap.size + 1 + 1]? = some V.nil.obj ∧ w1.heap.size ≤ w2.heap.size ∧ CallV (w.heap.size + 1 + 1 + 1) w2 e0 e1 w3)
    (fun k hk => ?_) ext1_enter (h1.mono fun e w' hh => ?_)).mono ?_
  · rw [hsz]
    rcases hk with hk | rfl
    · have := hF k hk; omega
    · omega
  · obtain ⟨w1, e0, w2, a1, ⟨a2, a2', a3⟩, a4, a5, a6⟩ := hh
    have a52 : Same F w w2 := (hs3.weaken (fun _ _ h => h.elim)).trans a5 (fun _ _ h => h)
    have hnil : w2.heap[w.heap.size + 1 + 1]? = some V.nil.obj := a5.obj (hr.obj (extW_r w g caps vs) id) (fun h => by have := hF _ h; omega)
    refine ⟨?_, ⟨w1, e0, w2, hs3.trans a1 (fun _ _ h => h), a2, a3, a4, a52, hnil, a2', a6⟩, ?_⟩
    · rcases a6 with ⟨y, er, rfl, rfl, b1, b2⟩ | ⟨c, rfl, rfl, rfl⟩
      · exact (a5.weaken (fun _ _ h => Or.inl h)).trans b1 (fun _ _ h => Or.inr h)
      · exact a5.weaken (fun _ _ h => Or.inl h)
    · rcases a6 with ⟨y, er, rfl, rfl, b1, b2⟩ | ⟨c, rfl, rfl, rfl⟩
      · rcases a4 with ⟨y', er', _, c2, c3⟩ | ⟨T, z, _, c2⟩
        · obtain rfl := tuple2_snd c2
          rcases c3 with rfl | ⟨D, z, rfl⟩
          · exact Or.inl rfl
          · exact Or.inr (Or.inl ⟨D, z, rfl⟩)
        · cases c2
      · rcases a4 with ⟨y', er', _, c2, c3⟩ | ⟨T, z, c1, c2⟩
        · cases c2
        · cases c2
          exact Or.inr (Or.inr ⟨T, z, c1, rfl⟩)
  · rintro e w' ⟨e1, w3, ⟨w1, e0, w2, b1, b2, b3, b4, b5, b6, b7, b8⟩, _, c2, c3⟩
    refine ⟨w1, e0, w2, e1, w3, b1, b2, b3, b4, b5, b6, b7, b8, c2.weaken (fun k _ h => ?_), c3⟩
    rw [hsz] at h
    omega

end Go.Proofs.YtcbapmkipcffgaaDoor
