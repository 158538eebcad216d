/-
  Package code, told of memory: the reader reads a value. Conditions: none on inputs but a bound of the length.
-/
import Derived.Test.YtmdkfbbagjcboaaCodeReadT
import Derived.Test.YtmdkfbbagjcboaaCodeRef
import Derived.Deep.RegionWith
import Derived.Deep.QuietTactic
namespace Go.Proofs.Ytmdkfbbagjcboaa
open Go.RowKit

/-- A value that is read off bytes, and what stands behind it. -/
def vdec : List UInt8 → Option (V × List UInt8)
  | [] => none
  | k :: r =>
    if k = 1 then if r.length < 8 then none else some (⟨1, (beN (r.take 8) : Int) - 9223372036854775808, ⟨#[]⟩, 0⟩, r.drop 8)
    else if k = 2 then
      match r with
      | [] => none
      | b :: r => if b = 0 ∨ b = 1 then some (⟨2, b.toNat, ⟨#[]⟩, 0⟩, r) else none
    else if k = 5 then if r.length < 8 then none else some (⟨5, 0, ⟨#[]⟩, ofF (beN (r.take 8))⟩, r.drop 8)
    else if k = 3 ∨ k = 4 then
      match tdec r with
      | none => none
      | some p => if p.1.length ≤ 60 then some (⟨k.toNat, 0, ⟨p.1.toArray⟩, 0⟩, p.2) else none
    else none

abbrev V.nil : V := ⟨0, 0, ⟨#[]⟩, 0⟩

def ValSays (rb b0 : Nat) (l : List UInt8) (e : Ending) (w' : World) : Prop :=
  match vdec l with
    | none => ∃ x : V, e = .returned (.tuple #[x.val, .bool false])
    | some p => e = .returned (.tuple #[p.1.val, .bool true]) ∧ Rd w' rb b0 p.2

theorem valSays_none {rb b0 : Nat} {l : List UInt8} {w' : World} (h : vdec l = none) (x : V) : ValSays rb b0 l (.returned (.tuple #[x.val, .bool false])) w' := by
  unfold ValSays; rw [h]; exact ⟨x, rfl⟩

theorem valSays_some {rb b0 : Nat} {l t : List UInt8} {x : V} {w' : World} (h : vdec l = some (x, t)) (hr : Rd w' rb b0 t) : ValSays rb b0 l (.returned (.tuple #[x.val, .bool true])) w' := by
  unfold ValSays; rw [h]; exact ⟨rfl, hr⟩

theorem val_ret {a : Act} {w : World} {x : V} {p : Nat} {b : Bool} {R : Ending → World → Prop} (hp : a.tmps.getD 2 undef = .pointer (some ⟨p, 0, none⟩)) (hb : w.heap[p]? = some x.obj) (h3 : a.tmps.getD 3 undef = .bool b)
    (hd : a.defers = []) (hR : R (.returned (.tuple #[x.val, .bool b])) w) : bodyPost Try.prog Try.f24 R .ret a w := by
  obtain ⟨e0, e1, e2, e3⟩ := obj_cells hb
  refine bodyPost_ret ?_ hd hR
  rw [results_cell_tmp rfl, hp, h3]
  simp [go_sem, e0, e1, e2, e3]

theorem value_none {w : World} {rb b0 : Nat} (h : Rd w rb b0 []) :
    Calls Try.prog 24 #[.pointer (some ⟨rb, 0, none⟩)] w fun e w' => Same (fun k => k = rb) w w' ∧ ValSays rb b0 [] e w' := by
  have h0 : Rd (w.alloc V.nil.obj) rb b0 [] := h.same (F := fun _ => False) ((Same.refl _ w).alloc _) id id
  have hs : Same (fun k => k = rb) w (w.alloc V.nil.obj) := (Same.refl _ w).alloc _
  have H := Lib.hid h0; have HS := Lib.hid hs
  clear h h0 hs
  go_enter Try.func24, Try.ntmps24
  go_wp2_with fail
  refine (takes_no H.out 1 (by simp)).mono ?_
  rintro e w' ⟨rfl, rfl⟩
  go_wp2_with fail
  refine val_ret (x := V.nil) (p := w.heap.size) rfl ?_ rfl rfl ⟨HS.out, valSays_none rfl _⟩
  exact heap_alloc_new _ _

theorem obj_free {w : World} {b : Nat} {x : V} (h : w.heap[b]? = some x.obj) (o : Nat) : w.frozen? ⟨b, o, none⟩ = false := by
  simp [World.frozen?, h]

abbrev set4 (W : World) (p : Nat) (x : V) : World :=
  (((W.setCell ⟨p, 0, none⟩ (.int .i64 x.k)).setCell ⟨p, 1, none⟩ (.int .i64 x.i)).setCell ⟨p, 2, none⟩ (.string x.s)).setCell ⟨p, 3, none⟩ (.float .f64 x.f)

theorem setCell_at {W : World} {p o : Nat} {cs : Array Value} {t : TypeId} {fr : Nat × Nat} {u : Value} (h : W.heap[p]? = some (.cells cs t fr)) : (W.setCell ⟨p, o, none⟩ u).heap[p]? = some (.cells (cs.setIfInBounds o u) t fr) := by
  simp [World.setCell, Array.getElem?_modify, h]

theorem set4_obj {W : World} {p : Nat} {y : V} (h : W.heap[p]? = some y.obj) (x : V) : (set4 W p x).heap[p]? = some x.obj :=
  setCell_at (setCell_at (setCell_at (setCell_at h)))

theorem set4_same {F : Nat → Prop} {w W : World} {p : Nat} (h : Same F w W) (hp : p < w.heap.size → F p) (x : V) : Same F w (set4 W p x) :=
  (((h.setCell (p := ⟨p, 0, none⟩) hp _).setCell (p := ⟨p, 1, none⟩) hp _).setCell (p := ⟨p, 2, none⟩) hp _).setCell (p := ⟨p, 3, none⟩) hp _

theorem val_done_none {w W : World} {rb b0 p2 p6 o : Nat} {y x : V} {u : Value} {l : List UInt8} {a : Act} (hs : Same (fun k => k = rb) w W) (hn : W.heap[p2]? = some y.obj) (h26 : p2 ≠ p6) (h2 : w.heap.size ≤ p2) (h6 : w.heap.size ≤ p6)
    (hp : a.tmps.getD 2 undef = .pointer (some ⟨p2, 0, none⟩)) (h3 : a.tmps.getD 3 undef = .bool false) (hd : a.defers = []) (hv : vdec l = none) :
    bodyPost Try.prog Try.f24 (fun e w' => Same (fun k => k = rb) w w' ∧ ValSays rb b0 l e w') .ret a (set4 (W.setCell ⟨p6, o, none⟩ u) p2 x) := by
  have hn' : (W.setCell ⟨p6, o, none⟩ u).heap[p2]? = some y.obj := (Below.heap_setCell _ _ _ _ h26).trans hn
  exact val_ret hp (set4_obj hn' x) h3 hd ⟨set4_same (hs.setCell (p := ⟨p6, o, none⟩) (fun (h : p6 < w.heap.size) => by omega) u) (fun h => by omega) x, valSays_none hv x⟩

theorem val_done_some {w W : World} {rb b0 p2 p6 o : Nat} {y x : V} {u : Value} {l t : List UInt8} {a : Act} (hs : Same (fun k => k = rb) w W) (hn : W.heap[p2]? = some y.obj) (h26 : p2 ≠ p6) (h2 : w.heap.size ≤ p2) (h6 : w.heap.size ≤ p6)
    (hb0 : b0 < w.heap.size) (hrb : rb < w.heap.size)
    (hp : a.tmps.getD 2 undef = .pointer (some ⟨p2, 0, none⟩)) (h3 : a.tmps.getD 3 undef = .bool true) (hd : a.defers = []) (hv : vdec l = some (x, t)) (hr : Rd W rb b0 t) :
    bodyPost Try.prog Try.f24 (fun e w' => Same (fun k => k = rb) w w' ∧ ValSays rb b0 l e w') .ret a (set4 (W.setCell ⟨p6, o, none⟩ u) p2 x) := by
  have hn' : (W.setCell ⟨p6, o, none⟩ u).heap[p2]? = some y.obj := (Below.heap_setCell _ _ _ _ h26).trans hn
  have hs' : Same (fun k => w.heap.size ≤ k) W (set4 (W.setCell ⟨p6, o, none⟩ u) p2 x) := set4_same ((Same.refl _ W).setCell (p := ⟨p6, o, none⟩) (fun _ => h6) u) (fun _ => h2) x
  exact val_ret hp (set4_obj hn' x) h3 hd ⟨set4_same (hs.setCell (p := ⟨p6, o, none⟩) (fun (h : p6 < w.heap.size) => by omega) u) (fun h => by omega) x, valSays_some hv (hr.same hs' (by omega) (by omega))⟩

theorem val_end_none {w W : World} {rb b0 p2 : Nat} {x : V} {l : List UInt8} {a : Act} (hs : Same (fun k => k = rb) w W) (hn : W.heap[p2]? = some x.obj)
    (hp : a.tmps.getD 2 undef = .pointer (some ⟨p2, 0, none⟩)) (h3 : a.tmps.getD 3 undef = .bool false) (hd : a.defers = []) (hv : vdec l = none) :
    bodyPost Try.prog Try.f24 (fun e w' => Same (fun k => k = rb) w w' ∧ ValSays rb b0 l e w') .ret a W :=
  val_ret hp hn h3 hd ⟨hs, valSays_none hv x⟩

theorem val_end_some {w W : World} {rb b0 p2 : Nat} {x : V} {l t : List UInt8} {a : Act} (hs : Same (fun k => k = rb) w W) (hn : W.heap[p2]? = some x.obj)
    (hp : a.tmps.getD 2 undef = .pointer (some ⟨p2, 0, none⟩)) (h3 : a.tmps.getD 3 undef = .bool true) (hd : a.defers = []) (hv : vdec l = some (x, t)) (hr : Rd W rb b0 t) :
    bodyPost Try.prog Try.f24 (fun e w' => Same (fun k => k = rb) w w' ∧ ValSays rb b0 l e w') .ret a W :=
  val_ret hp hn h3 hd ⟨hs, valSays_some hv hr⟩

theorem Same.drew {F : Nat → Prop} {w w1 : World} (h : Same F w w1) : Same F w w1.drew := ⟨h.os, h.tape, h.output, h.size, h.block⟩

structure Fin (w W W' : World) (rb b0 p2 : Nat) (x : V) : Prop where
  same : Same (fun k => k = rb) w W'
  out : W'.heap[p2]? = some x.obj
  rd : ∀ t, Rd W rb b0 t → Rd W' rb b0 t
  old : w.heap.size ≤ p2
  hb0 : b0 < w.heap.size
  hrb : rb < w.heap.size

theorem Fin.start {w W : World} {rb b0 p2 : Nat} {y : V} (hs : Same (fun k => k = rb) w W) (hn : W.heap[p2]? = some y.obj) (h2 : w.heap.size ≤ p2) (hb0 : b0 < w.heap.size) (hrb : rb < w.heap.size) : Fin w W W rb b0 p2 y :=
  ⟨hs, hn, fun _ h => h, h2, hb0, hrb⟩

theorem Fin.drew {w W W' : World} {rb b0 p2 : Nat} {x : V} (h : Fin w W W' rb b0 p2 x) : Fin w W W'.drew rb b0 p2 x :=
  ⟨h.same.drew, h.out, fun t ht => (h.rd t ht).same (F := fun _ => False) (Same.refl _ W').drew id id, h.old, h.hb0, h.hrb⟩

theorem Fin.alloc {w W W' : World} {rb b0 p2 : Nat} {x : V} (h : Fin w W W' rb b0 p2 x) (o : Obj) : Fin w W (W'.alloc o) rb b0 p2 x :=
  ⟨h.same.alloc o, ((Same.refl (fun _ => False) W').alloc o).obj h.out id, fun t ht => (h.rd t ht).same (F := fun _ => False) ((Same.refl _ W').alloc o) id id, h.old, h.hb0, h.hrb⟩

theorem Fin.set {w W W' : World} {rb b0 p2 : Nat} {y : V} (h : Fin w W W' rb b0 p2 y) (k i : Int) (s : ByteArray) (f : Nat) :
    Fin w W ((((W'.setCell ⟨p2, 0, none⟩ (.int .i64 k)).setCell ⟨p2, 1, none⟩ (.int .i64 i)).setCell ⟨p2, 2, none⟩ (.string s)).setCell ⟨p2, 3, none⟩ (.float .f64 f)) rb b0 p2 ⟨k, i, s, f⟩ :=
  ⟨set4_same h.same (fun hl => by have := h.old; omega) ⟨k, i, s, f⟩, set4_obj h.out ⟨k, i, s, f⟩,
    fun t ht => (h.rd t ht).same (F := fun k => w.heap.size ≤ k) (set4_same (Same.refl _ W') (fun _ => h.old) ⟨k, i, s, f⟩) (by have := h.hb0; omega) (by have := h.hrb; omega), h.old, h.hb0, h.hrb⟩

theorem fin_some {w W W' : World} {rb b0 p2 : Nat} {x : V} {l t : List UInt8} {a : Act} (hf : Fin w W W' rb b0 p2 x)
    (hp : a.tmps.getD 2 undef = .pointer (some ⟨p2, 0, none⟩)) (h3 : a.tmps.getD 3 undef = .bool true) (hd : a.defers = []) (hv : vdec l = some (x, t)) (hr : Rd W rb b0 t) :
    bodyPost Try.prog Try.f24 (fun e w' => Same (fun k => k = rb) w w' ∧ ValSays rb b0 l e w') .ret a W' := val_end_some hf.same hf.out hp h3 hd hv (hf.rd t hr)

theorem fin_none {w W W' : World} {rb b0 p2 : Nat} {x : V} {l : List UInt8} {a : Act} (hf : Fin w W W' rb b0 p2 x)
    (hp : a.tmps.getD 2 undef = .pointer (some ⟨p2, 0, none⟩)) (h3 : a.tmps.getD 3 undef = .bool false) (hd : a.defers = []) (hv : vdec l = none) :
    bodyPost Try.prog Try.f24 (fun e w' => Same (fun k => k = rb) w w' ∧ ValSays rb b0 l e w') .ret a W' := val_end_none hf.same hf.out hp h3 hd hv

theorem value_int {w : World} {rb b0 : Nat} {r : List UInt8} (h : Rd w rb b0 (1 :: r)) (hl : r.length ≤ 1000000) :
    Calls Try.prog 24 #[.pointer (some ⟨rb, 0, none⟩)] w fun e w' => Same (fun k => k = rb) w w' ∧ ValSays rb b0 (1 :: r) e w' := by
  have hrb : rb < w.heap.size := by obtain ⟨_, _, h1, _⟩ := h; exact h1.lt
  have hb0 : b0 < w.heap.size := by obtain ⟨_, _, _, _, h3, _⟩ := h; exact h3
  have h0 : Rd (w.alloc V.nil.obj) rb b0 (1 :: r) := h.same (F := fun _ => False) ((Same.refl _ w).alloc _) id id
  have hs : Same (fun k => k = rb) w (w.alloc V.nil.obj) := (Same.refl _ w).alloc _
  have hn : (w.alloc V.nil.obj).heap[w.heap.size]? = some V.nil.obj := heap_alloc_new _ _
  have H := Lib.hid h0; have HS := Lib.hid hs; have HN := Lib.hid hn
  clear h h0 hs hn
  go_enter Try.func24, Try.ntmps24
  go_wp2_with fail
  refine (takes_yes H.out 1 (by simp)).mono ?_
  rintro e w1 ⟨off, cap, rfl, hb, hs1, hr⟩
  have hk := hb.cells 0 1 rfl
  rw [Nat.add_zero] at hk
  have hn1 := hs1.obj HN.out (by omega)
  have hlt := lt_of_block hn1
  have hs2 := HS.out.trans hs1 (fun _ _ h => h)
  have HR := Lib.hid hr; have HN1 := Lib.hid hn1; have HS2 := Lib.hid hs2
  clear hb hs1 hr hn1 hs2
  go_wp2_with fail
  have ha : Same (fun _ => False) w1 (w1.alloc (⟨1, 0, ⟨#[]⟩, 0⟩ : V).obj) := (Same.refl _ w1).alloc _
  have hra : Rd (w1.alloc (⟨1, 0, ⟨#[]⟩, 0⟩ : V).obj) rb b0 r := HR.out.same ha id id
  have hna := ha.obj HN1.out id
  have hn6 : (w1.alloc (⟨1, 0, ⟨#[]⟩, 0⟩ : V).obj).heap[w1.heap.size]? = some (⟨1, 0, ⟨#[]⟩, 0⟩ : V).obj := heap_alloc_new _ _
  have hsa := HS2.out.trans ha (fun _ _ h => h.elim)
  obtain ⟨p6, hp6⟩ : ∃ p, p = w1.heap.size := ⟨_, rfl⟩
  obtain ⟨W2, hW2⟩ : ∃ W, W = w1.alloc (⟨1, 0, ⟨#[]⟩, 0⟩ : V).obj := ⟨_, rfl⟩
  simp only [V.obj] at hW2
  rw [← hp6] at hn6 ⊢
  rw [← hW2] at hra hna hn6 hsa ⊢
  have h26 : w.heap.size ≠ p6 := by omega
  have h6 : w.heap.size ≤ p6 := by omega
  obtain ⟨p2, hp2⟩ : ∃ p, p = w.heap.size := ⟨_, rfl⟩
  rw [← hp2] at hna h26 ⊢
  have h2 : w.heap.size ≤ p2 := by omega
  have HRA := Lib.hid hra; have HNA := Lib.hid hna; have HN6 := Lib.hid hn6; have HSA := Lib.hid hsa
  clear ha hra hna hn6 hsa hW2 hp6 hp2 hk hlt HR HN1 HS2 H HS HN
  by_cases h8 : r.length < 8
  · refine (num_no HRA.out h8).mono ?_
    rintro e w' ⟨rfl, rfl⟩
    obtain ⟨a0, a1, a2, a3⟩ := obj_cells HN6.out
    obtain ⟨z0, z1, z2, z3⟩ := obj_cells HNA.out
    have f6 := obj_free HN6.out
    have f2 := obj_free HNA.out
    go_wp2_with fail
    exact val_done_none (x := ⟨1, _, ⟨#[]⟩, 0⟩) HSA.out HNA.out h26 h2 h6 rfl rfl rfl (by simp [vdec, h8])
  · refine (num_yes HRA.out (by omega)).mono ?_
    rintro e W3 ⟨rfl, hs3, hr3⟩
    have hn6 := hs3.obj HN6.out (by omega)
    have hn2 := hs3.obj HNA.out (by omega)
    have hs3' := HSA.out.trans hs3 (fun _ _ h => h)
    obtain ⟨a0, a1, a2, a3⟩ := obj_cells hn6
    obtain ⟨z0, z1, z2, z3⟩ := obj_cells hn2
    have f6 := obj_free hn6
    have f2 := obj_free hn2
    have hlt := beN_lt (r.take 8)
    rw [show (r.take 8).length = 8 by simp; omega] at hlt
    have hv : vdec (1 :: r) = some (⟨1, (beN (r.take 8) : Int) - 9223372036854775808, ⟨#[]⟩, 0⟩, r.drop 8) := by simp [vdec, h8]
    obtain ⟨n, hn⟩ : ∃ n, n = beN (r.take 8) := ⟨_, rfl⟩
    rw [← hn] at hv hlt ⊢
    have hX : wrap64 (IntKind.u64.wrap ((n : Int) - 9223372036854775808)) = (n : Int) - 9223372036854775808 := by
      have : IntKind.u64.wrap ((n : Int) - 9223372036854775808) = ((n : Int) - 9223372036854775808) % 18446744073709551616 := IntKind.wrap_u64 _
      rw [this]; unfold wrap64; omega
    have HS3 := Lib.hid hs3'; have HR3 := Lib.hid hr3; have HN6' := Lib.hid hn6; have HN2' := Lib.hid hn2; have HV := Lib.hid hv
    clear hs3 hr3 hn6 hn2 hs3' hn hv
    go_wp2_with fail
    exact val_done_some (x := ⟨1, (n : Int) - 9223372036854775808, ⟨#[]⟩, 0⟩) HS3.out HN2'.out h26 h2 h6 hb0 hrb rfl rfl rfl HV.out HR3.out

theorem value_float {w : World} {rb b0 : Nat} {r : List UInt8} (h : Rd w rb b0 (5 :: r)) (hl : r.length ≤ 1000000) :
    Calls Try.prog 24 #[.pointer (some ⟨rb, 0, none⟩)] w fun e w' => Same (fun k => k = rb) w w' ∧ ValSays rb b0 (5 :: r) e w' := by
  have hrb : rb < w.heap.size := by obtain ⟨_, _, h1, _⟩ := h; exact h1.lt
  have hb0 : b0 < w.heap.size := by obtain ⟨_, _, _, _, h3, _⟩ := h; exact h3
  have h0 : Rd (w.alloc V.nil.obj) rb b0 (5 :: r) := h.same (F := fun _ => False) ((Same.refl _ w).alloc _) id id
  have hs : Same (fun k => k = rb) w (w.alloc V.nil.obj) := (Same.refl _ w).alloc _
  have hn : (w.alloc V.nil.obj).heap[w.heap.size]? = some V.nil.obj := heap_alloc_new _ _
  have H := Lib.hid h0; have HS := Lib.hid hs; have HN := Lib.hid hn
  clear h h0 hs hn
  go_enter Try.func24, Try.ntmps24
  go_wp2_with fail
  refine (takes_yes H.out 1 (by simp)).mono ?_
  rintro e w1 ⟨off, cap, rfl, hb, hs1, hr⟩
  have hk := hb.cells 0 5 rfl
  rw [Nat.add_zero] at hk
  have hn1 := hs1.obj HN.out (by omega)
  have hlt := lt_of_block hn1
  have hs2 := HS.out.trans hs1 (fun _ _ h => h)
  have HR := Lib.hid hr; have HN1 := Lib.hid hn1; have HS2 := Lib.hid hs2
  clear hb hs1 hr hn1 hs2
  go_wp2_with fail
  have ha : Same (fun _ => False) w1 (w1.alloc (⟨5, 0, ⟨#[]⟩, 0⟩ : V).obj) := (Same.refl _ w1).alloc _
  have hra : Rd (w1.alloc (⟨5, 0, ⟨#[]⟩, 0⟩ : V).obj) rb b0 r := HR.out.same ha id id
  have hna := ha.obj HN1.out id
  have hn6 : (w1.alloc (⟨5, 0, ⟨#[]⟩, 0⟩ : V).obj).heap[w1.heap.size]? = some (⟨5, 0, ⟨#[]⟩, 0⟩ : V).obj := heap_alloc_new _ _
  have hsa := HS2.out.trans ha (fun _ _ h => h.elim)
  obtain ⟨p6, hp6⟩ : ∃ p, p = w1.heap.size := ⟨_, rfl⟩
  obtain ⟨W2, hW2⟩ : ∃ W, W = w1.alloc (⟨5, 0, ⟨#[]⟩, 0⟩ : V).obj := ⟨_, rfl⟩
  simp only [V.obj] at hW2
  rw [← hp6] at hn6 ⊢
  rw [← hW2] at hra hna hn6 hsa ⊢
  have h26 : w.heap.size ≠ p6 := by omega
  have h6 : w.heap.size ≤ p6 := by omega
  obtain ⟨p2, hp2⟩ : ∃ p, p = w.heap.size := ⟨_, rfl⟩
  rw [← hp2] at hna h26 ⊢
  have h2 : w.heap.size ≤ p2 := by omega
  have HRA := Lib.hid hra; have HNA := Lib.hid hna; have HN6 := Lib.hid hn6; have HSA := Lib.hid hsa
  clear ha hra hna hn6 hsa hW2 hp6 hp2 hk hlt HR HN1 HS2 H HS HN
  by_cases h8 : r.length < 8
  · refine (num_no HRA.out h8).mono ?_
    rintro e w' ⟨rfl, rfl⟩
    obtain ⟨a0, a1, a2, a3⟩ := obj_cells HN6.out
    obtain ⟨z0, z1, z2, z3⟩ := obj_cells HNA.out
    have f6 := obj_free HN6.out
    have f2 := obj_free HNA.out
    go_wp2_with fail
    refine (of_any 0 (by omega) _).mono ?_
    rintro e w' ⟨rfl, rfl⟩
    go_wp2_with fail
    exact val_done_none (x := ⟨5, 0, ⟨#[]⟩, _⟩) HSA.out HNA.out h26 h2 h6 rfl rfl rfl (by simp [vdec, h8])
  · refine (num_yes HRA.out (by omega)).mono ?_
    rintro e W3 ⟨rfl, hs3, hr3⟩
    have hn6 := hs3.obj HN6.out (by omega)
    have hn2 := hs3.obj HNA.out (by omega)
    have hs3' := HSA.out.trans hs3 (fun _ _ h => h)
    obtain ⟨a0, a1, a2, a3⟩ := obj_cells hn6
    obtain ⟨z0, z1, z2, z3⟩ := obj_cells hn2
    have f6 := obj_free hn6
    have f2 := obj_free hn2
    have hlt := beN_lt (r.take 8)
    rw [show (r.take 8).length = 8 by simp; omega] at hlt
    have hv : vdec (5 :: r) = some (⟨5, 0, ⟨#[]⟩, ofF (beN (r.take 8))⟩, r.drop 8) := by simp [vdec, h8]
    obtain ⟨n, hn⟩ : ∃ n, n = beN (r.take 8) := ⟨_, rfl⟩
    rw [← hn] at hv hlt ⊢
    have HS3 := Lib.hid hs3'; have HR3 := Lib.hid hr3; have HN6' := Lib.hid hn6; have HN2' := Lib.hid hn2; have HV := Lib.hid hv
    clear hs3 hr3 hn6 hn2 hs3' hn hv
    go_wp2_with fail
    refine (of_any n (by omega) _).mono ?_
    rintro e w' ⟨rfl, rfl⟩
    go_wp2_with fail
    exact val_done_some (x := ⟨5, 0, ⟨#[]⟩, ofF n⟩) HS3.out HN2'.out h26 h2 h6 hb0 hrb rfl rfl rfl HV.out HR3.out

end Go.Proofs.Ytmdkfbbagjcboaa
