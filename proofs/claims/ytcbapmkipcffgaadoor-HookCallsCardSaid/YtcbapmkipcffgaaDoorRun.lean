/-
  hook.Run: the deferred closure, for a frame that returns and for one that panics; Run by what the user's code does. Conditions: none.
-/
import Derived.Test.YtcbapmkipcffgaaDoorErrs
import Derived.Defers
import Derived.Recover
import Derived.Tactics2
namespace Go.Proofs.YtcbapmkipcffgaaDoor
open Go.RowKit Go.Extern.Stop Go.Stop Go.Extern Go.Lib

theorem wpS_rest {P : Program} {fn : Func} {c₀ : Frame} {cs : List Frame} {R : Ending → FrameMode → World → Prop} {c : Code} {u1 : FrameMode} {a : Act} {w : World} {c' : Frame} (hc : c' = { c₀ with mode := u1 })
    (h : c.wp P (bodyPost P fn fun e w' => R e u1 w') a w) : c.wpS P (bodyPostS P fn c₀ cs R) a (c' :: cs) w := by
  subst hc
  refine wpS_of_wp ?_
  intro b k cs2
  obtain ⟨e, a', w', q, r⟩ := h b k cs2
  refine ⟨e, a', w', ?_, r⟩
  cases e with
  | normal => obtain ⟨hd, v, hr, hR⟩ := q; exact ⟨hd, u1, rfl, v, hr, hR⟩
  | ret => obtain ⟨hd, v, hr, hR⟩ := q; exact ⟨hd, u1, rfl, v, hr, hR⟩
  | panic chain => obtain ⟨hd, hR⟩ := q; exact ⟨hd, u1, rfl, hR⟩
  | exit id => exact q.elim
  | goto l => exact q.elim
  | outgrown => exact ⟨u1, q⟩

theorem nobody_no (w : World) : (Instr.typeAssert .nilIface 20 114 true).run Tryd.prog w = .ok (.tuple #[.agg #[], .bool false]) w := by kernel_rfl

theorem alloc_size (w : World) (o : Obj) : (w.alloc o).heap.size = w.heap.size + 1 := by simp

theorem wp_tmps {P : Program} {c : Code} {Q : Exit → Act → World → Prop} {a a' : Act} {w : World} (h : a = a') (hw : c.wp P Q a' w) : c.wp P Q a w := by subst h; exact hw

theorem frame_same {c₀ : Frame} {u : FrameMode} (h : c₀.mode = u) : c₀ = { c₀ with mode := u } := by subst h; rfl

set_option maxHeartbeats 4000000 in
/-- The closure at a frame that returns, the call done: nothing turns. -/
theorem back_idle (b0 b1 b2 : Nat) (w : World) (h2 : One w b2 (.bool true) 4) :
    CallsD Tryd.prog 56 #[.pointer (some ⟨b0, 0, none⟩), .pointer (some ⟨b1, 0, none⟩), .pointer (some ⟨b2, 0, none⟩)] .returning w fun e u' w' => e = .returned (.tuple #[]) ∧ u' = .returning ∧ Same (fun _ => False) w w' := by
  have c2 := (h2.alloc (.cells #[] 114)).cell
  have hs := (Same.refl (fun _ => False) w).alloc (.cells #[] 114)
  have tn := nobody_no
  have HS := Lib.hid hs; clear hs h2
  refine callsD_of_wpS Tryd.func56 rfl fun c₀ cs hu => ?_
  apply wpS_seq
  apply wpS_region
  simp [wpOpsS, go_sem, recoverD, hu, Tryd.ntmps56, Exit.thenS]
  refine wpS_rest (frame_same hu) ?_
  refine wp_tmps (a' := { tmps := #[.pointer (some ⟨b0, 0, none⟩), .pointer (some ⟨b1, 0, none⟩), .pointer (some ⟨b2, 0, none⟩), .nilIface, undef, undef, .nilIface, undef, undef, undef, undef, undef, undef, undef, undef, undef, undef, undef, undef, undef, undef, undef, undef, undef, undef, undef, undef], defers := [] }) (by kernel_rfl) ?_
  go_wp2
  go_end0
  exact ⟨rfl, HS.out⟩

theorem nobody_other (T : TypeId) (v : Value) (hT : T ≠ 114) (w : World) : (Instr.typeAssert (.iface T v) 20 114 true).run Tryd.prog w = .ok (.tuple #[.agg #[], .bool false]) w := by
  have hz : (zeroValue 114).run Tryd.prog w = .ok (.agg #[]) w := by kernel_rfl
  simp [Instr.typeAssert, run_underlying Tryd.underlying114, hT, hz]

theorem nobody_one (w : World) : (Instr.typeAssert (.iface 114 (.agg #[])) 20 114 true).run Tryd.prog w = .ok (.tuple #[.agg #[], .bool true]) w := by kernel_rfl

/-- A Fault's three fields. -/
abbrev faultObj (wh : ByteArray) (err pan : Value) : Obj := .cells #[.string wh, err, pan] 52

set_option maxHeartbeats 4000000 in
/-- The closure at a frame that panics with whatever but nobody: the Fault is laid. -/
theorem back_panic (b0 b1 b2 : Nat) (wh : ByteArray) (old : Value) (T : TypeId) (v : Value) (hT : T ≠ 114) (w : World) (h0 : One w b0 (.string wh) 9) (h1 : One w b1 old 25) (h2 : One w b2 (.bool false) 4) :
    CallsD Tryd.prog 56 #[.pointer (some ⟨b0, 0, none⟩), .pointer (some ⟨b1, 0, none⟩), .pointer (some ⟨b2, 0, none⟩)] (.panicking [{ v := .iface T v, recovered := false }]) w fun e u' w' => e = .returned (.tuple #[]) ∧ u' = .panicking [{ v := .iface T v, recovered := true }] ∧
      Same (fun k => k = b1) w w' ∧ ∃ p, One w' b1 (.iface 48 (.pointer (some ⟨p, 0, none⟩))) 25 ∧ w.heap.size ≤ p ∧ w'.heap[p]? = some (faultObj wh .nilIface (.iface T v)) := by
  have c2 := (h2.alloc (.cells #[] 114)).cell
  have c0 := (h0.alloc (.cells #[] 114)).cell
  have c1 := ((h1.alloc (.cells #[] 114)).alloc (faultObj wh .nilIface (.iface T v))).cell
  have f1 := ((h1.alloc (.cells #[] 114)).alloc (faultObj wh .nilIface (.iface T v))).free
  have tn := nobody_other T v hT
  have hl1 := h1.lt
  have hl2 := h2.lt
  have hl0 := h0.lt
  have H1 := Lib.hid h1; clear h0 h1 h2
  refine callsD_of_wpS Tryd.func56 rfl fun c₀ cs hu => ?_
  apply wpS_seq
  apply wpS_region
  simp [wpOpsS, go_sem, recoverD, hu, Tryd.ntmps56, Exit.thenS]
  refine wpS_rest rfl ?_
  refine wp_tmps (a' := { tmps := #[.pointer (some ⟨b0, 0, none⟩), .pointer (some ⟨b1, 0, none⟩), .pointer (some ⟨b2, 0, none⟩), .iface T v, undef, undef, .iface T v, undef, undef, undef, undef, undef, undef, undef, undef, undef, undef, undef, undef, undef, undef, undef, undef, undef, undef, undef, undef], defers := [] }) (by kernel_rfl) ?_
  go_wp2
  go_end0
  refine ⟨rfl, (((Same.refl (fun k => k = b1) w).setCell (p := ⟨b1, 0, none⟩) (fun _ => rfl) _).alloc _).alloc _, w.heap.size + 1, ((H1.out.setCell _).alloc _).alloc _, by omega, ?_⟩
  have := heap_alloc_new ((w.setCell ⟨b1, 0, none⟩ (.iface 48 (.pointer (some ⟨w.heap.size + 1, 0, none⟩)))).alloc (.cells #[] 114)) (faultObj wh .nilIface (.iface T v))
  simpa [World.setCell] using this

set_option maxHeartbeats 4000000 in
/-- The closure at a frame that panics with nobody: there is no user code. -/
theorem back_nobody (b0 b1 b2 : Nat) (wh : ByteArray) (old : Value) (w : World) (h0 : One w b0 (.string wh) 9) (h1 : One w b1 old 25) (h2 : One w b2 (.bool false) 4) :
    CallsD Tryd.prog 56 #[.pointer (some ⟨b0, 0, none⟩), .pointer (some ⟨b1, 0, none⟩), .pointer (some ⟨b2, 0, none⟩)] (.panicking [{ v := .iface 114 (.agg #[]), recovered := false }]) w fun e u' w' => e = .returned (.tuple #[]) ∧ u' = .panicking [{ v := .iface 114 (.agg #[]), recovered := true }] ∧
      Same (fun k => k = b1) w w' ∧ ∃ p, One w' b1 (.iface 48 (.pointer (some ⟨p, 0, none⟩))) 25 ∧ w.heap.size ≤ p ∧ w'.heap[p]? = some (faultObj wh (.iface 46 (.int .i64 50)) .nilIface) := by
  have c2 := (h2.alloc (.cells #[] 114)).cell
  have c0 := (h0.alloc (.cells #[] 114)).cell
  have c1 := ((h1.alloc (.cells #[] 114)).alloc (faultObj wh (.iface 46 (.int .i64 50)) .nilIface)).cell
  have f1 := ((h1.alloc (.cells #[] 114)).alloc (faultObj wh (.iface 46 (.int .i64 50)) .nilIface)).free
  have tn := nobody_one
  have hl1 := h1.lt
  have hl2 := h2.lt
  have hl0 := h0.lt
  have H1 := Lib.hid h1; clear h0 h1 h2
  refine callsD_of_wpS Tryd.func56 rfl fun c₀ cs hu => ?_
  apply wpS_seq
  apply wpS_region
  simp [wpOpsS, go_sem, recoverD, hu, Tryd.ntmps56, Exit.thenS]
  refine wpS_rest rfl ?_
  refine wp_tmps (a' := { tmps := #[.pointer (some ⟨b0, 0, none⟩), .pointer (some ⟨b1, 0, none⟩), .pointer (some ⟨b2, 0, none⟩), .iface 114 (.agg #[]), undef, undef, .iface 114 (.agg #[]), undef, undef, undef, undef, undef, undef, undef, undef, undef, undef, undef, undef, undef, undef, undef, undef, undef, undef, undef, undef], defers := [] }) (by kernel_rfl) ?_
  go_wp2
  go_end0
  refine ⟨rfl, (((Same.refl (fun k => k = b1) w).setCell (p := ⟨b1, 0, none⟩) (fun _ => rfl) _).alloc _).alloc _, w.heap.size + 1, ((H1.out.setCell _).alloc _).alloc _, by omega, ?_⟩
  have := heap_alloc_new ((w.setCell ⟨b1, 0, none⟩ (.iface 48 (.pointer (some ⟨w.heap.size + 1, 0, none⟩)))).alloc (.cells #[] 114)) (faultObj wh (.iface 46 (.int .i64 50)) .nilIface)
  simpa [World.setCell] using this

/-- What Run tells of what the user's code did. -/
def Told (wh : ByteArray) (e0 e : Ending) (w' : World) : Prop :=
  (e0 = .returned .nilIface ∧ e = .returned .nilIface) ∨
  (∃ D x p, e0 = .returned (.iface D x) ∧ e = .returned (.iface 48 (.pointer (some ⟨p, 0, none⟩))) ∧ w'.heap[p]? = some (faultObj wh (.iface D x) .nilIface)) ∨
  (∃ T x p, e0 = .panicked [{ v := .iface T x, recovered := false }] ∧ e = .returned (.iface 48 (.pointer (some ⟨p, 0, none⟩))) ∧ w'.heap[p]? = some (faultObj wh .nilIface (.iface T x)))

/-- What the user's code may do. -/
def Plain (e : Ending) : Prop := e = .returned .nilIface ∨ (∃ D x, e = .returned (.iface D x)) ∨ ∃ T x, T ≠ 114 ∧ e = .panicked [{ v := .iface T x, recovered := false }]

set_option maxHeartbeats 4000000 in
theorem run_none (wh : ByteArray) (w : World) :
    Calls Tryd.prog 20 #[.string wh, .nilFunc] w fun e w' => Same (fun _ => False) w w' ∧ ∃ p, e = .returned (.iface 48 (.pointer (some ⟨p, 0, none⟩))) ∧ w.heap.size ≤ p ∧ w'.heap[p]? = some (faultObj wh (.iface 46 (.int .i64 50)) .nilIface) := by
  have hmf : ∀ (fn : Fn) (first cap : Array Value) (w : World), (Instr.makeFunc fn first cap).run Tryd.prog w = .ok (.func fn first cap) w := fun _ _ _ _ => rfl
  have hnil : ∀ w : World, (binOp BinOp.eql 47 .nilFunc .nilFunc).run Tryd.prog w = .ok (.bool true) w := fun _ => by kernel_rfl
  go_enter_defers Tryd.func20, Tryd.ntmps20
  go_wp2
  have h0 := ((One.new w (.string wh) 9).alloc (.cells #[.nilIface] 25)).alloc (.cells #[.bool false] 4)
  have h1 := (One.new (w.alloc (.cells #[.string wh] 9)) .nilIface 25).alloc (.cells #[.bool false] 4)
  have h2 := One.new ((w.alloc (.cells #[.string wh] 9)).alloc (.cells #[.nilIface] 25)) (.bool false) 4
  simp only [alloc_size] at h0 h1 h2
  refine leaves_cons (f := 56) (args := #[.pointer (some ⟨w.heap.size, 0, none⟩), .pointer (some ⟨w.heap.size + 1, 0, none⟩), .pointer (some ⟨w.heap.size + 1 + 1, 0, none⟩)]) (by simp) (by simp [go_sem]) ?_
  refine (back_nobody w.heap.size (w.heap.size + 1) (w.heap.size + 1 + 1) wh .nilIface _ h0 h1 h2).mono ?_
  rintro e u' w'' ⟨rfl, rfl, hs, p, hone, hp, hf⟩
  have hc := hone.cell
  simp [Leaves, settle, results, Tryd.results20, go_sem, hc]
  refine ⟨(((((Same.refl (fun _ => False) w).alloc _).alloc _).alloc _).trans hs (fun k hk he => by omega)), ?_, hf⟩
  simp at hp
  omega

theorem in3 {n k : Nat} (h : k = n ∨ k = n + 1 ∨ k = n + 1 + 1) : n ≤ k ∧ k < n + 3 := by omega

abbrev run3 (w : World) (wh : ByteArray) : World := ((w.alloc (.cells #[.string wh] 9)).alloc (.cells #[.nilIface] 25)).alloc (.cells #[.bool false] 4)

theorem run3_same (w : World) (wh : ByteArray) : Same (fun _ => False) w (run3 w wh) := (((Same.refl _ w).alloc _).alloc _).alloc _
theorem run3_size (w : World) (wh : ByteArray) : (run3 w wh).heap.size = w.heap.size + 3 := by simp

set_option maxHeartbeats 4000000 in
set_option maxRecDepth 100000 in
/-- Run, by what the user's code does. -/
theorem run_any {wh : ByteArray} {g : FuncId} {caps : Array Value} {w : World} {R : Ending → World → Prop} {F : Nat → Prop} (hF : ∀ k, F k → k < w.heap.size) (hg : ∀ (args : Array Value) (w : World), (callFunc g args).run Tryd.prog w = .ok (.enter g args) w)
    (hf : Calls Tryd.prog g caps (run3 w wh) fun e w2 => Same F (run3 w wh) w2 ∧ R e w2 ∧ Plain e) :
    Calls Tryd.prog 20 #[.string wh, .func (.func g) #[] caps] w fun e w' => ∃ e0 w0, R e0 w0 ∧ Same F w w0 ∧ Same (fun k => w.heap.size ≤ k ∧ k < w.heap.size + 3) w0 w' ∧ Told wh e0 e w' := by
  have hmf : ∀ (fn : Fn) (first cap : Array Value) (w : World), (Instr.makeFunc fn first cap).run Tryd.prog w = .ok (.func fn first cap) w := fun _ _ _ _ => rfl
  have hnil : ∀ w : World, (binOp BinOp.eql 47 (.func (.func g) #[] caps) .nilFunc).run Tryd.prog w = .ok (.bool false) w := fun _ => by kernel_rfl
  have h0 := ((One.new w (.string wh) 9).alloc (.cells #[.nilIface] 25)).alloc (.cells #[.bool false] 4)
  have h1 := (One.new (w.alloc (.cells #[.string wh] 9)) .nilIface 25).alloc (.cells #[.bool false] 4)
  have h2 := One.new ((w.alloc (.cells #[.string wh] 9)).alloc (.cells #[.nilIface] 25)) (.bool false) 4
  simp only [alloc_size] at h0 h1 h2
  have H0 := Lib.hid h0; have H1 := Lib.hid h1; have H2 := Lib.hid h2; have HF := Lib.hid hF; have HFN := Lib.hid hf
  clear h0 h1 h2 hF hf
  go_enter_defers Tryd.func20, Tryd.ntmps20
  go_wp2_with fail
  refine HFN.out.mono ?_
  rintro e w2 ⟨hs, hr, hp⟩
  have hnF : ∀ k, w.heap.size ≤ k → ¬ F k := fun k hk hf => by have := HF.out k hf; omega
  have g0 := hs.one H0.out (hnF _ (Nat.le_refl _))
  have g1 := hs.one H1.out (hnF _ (by omega))
  have g2 := hs.one H2.out (hnF _ (by omega))
  have hsz := hs.size
  simp only [alloc_size] at hsz
  have HS := Lib.hid (((run3_same w wh).weaken (F' := F) (fun k _ h => h.elim)).trans hs (fun _ _ h => h)); have HR := Lib.hid hr
  have c0 := g0.cell
  have c1 := g1.cell
  have c2 := g2.cell
  have f1 := g1.free
  have f2 := g2.free
  have G0 := Lib.hid g0; have G1 := Lib.hid g1; have G2 := Lib.hid g2
  clear hs hr H0 H1 H2 hnF g0 g1 g2 HF HFN
  rcases hp with rfl | ⟨D, x, rfl⟩ | ⟨T, x, hT, rfl⟩
  · have hb : Same (fun k => w.heap.size ≤ k ∧ k < w.heap.size + 3) w2 ((w2.setCell ⟨w.heap.size + 1 + 1, 0, none⟩ (.bool true)).setCell ⟨w.heap.size + 1, 0, none⟩ .nilIface) :=
      ((Same.refl _ w2).setCell (p := ⟨w.heap.size + 1 + 1, 0, none⟩) (fun _ => in3 (Or.inr (Or.inr rfl))) _).setCell (p := ⟨w.heap.size + 1, 0, none⟩) (fun _ => in3 (Or.inr (Or.inl rfl))) _
    have k1 := (G1.out.other (a := ⟨w.heap.size + 1 + 1, 0, none⟩) (by simp) (.bool true)).setCell .nilIface
    have k2 := (G2.out.setCell (.bool true)).other (a := ⟨w.heap.size + 1, 0, none⟩) (by simp) .nilIface
    have HB := Lib.hid hb; have K1 := Lib.hid k1; have K2 := Lib.hid k2
    clear hb k1 k2
    go_wp2_with fail
    refine leaves_cons (f := 56) (args := #[.pointer (some ⟨w.heap.size, 0, none⟩), .pointer (some ⟨w.heap.size + 1, 0, none⟩), .pointer (some ⟨w.heap.size + 1 + 1, 0, none⟩)]) (by simp) (by simp [go_sem]) ?_
    refine (back_idle _ _ _ _ K2.out).mono ?_
    rintro e u' w'' ⟨rfl, rfl, hs⟩
    have hc := (hs.one K1.out id).cell
    simp [Leaves, settle, results, Tryd.results20, go_sem, hc]
    exact ⟨_, w2, HR.out, HS.out, HB.out.trans hs (fun _ _ h => h.elim), Or.inl ⟨rfl, rfl⟩⟩
  · have k1 := (G1.out.other (a := ⟨w.heap.size + 1 + 1, 0, none⟩) (by simp) (.bool true)).alloc (faultObj wh (.iface D x) .nilIface)
    have kc := k1.cell
    have kf := k1.free
    have k2 := (G2.out.setCell (.bool true)).alloc (faultObj wh (.iface D x) .nilIface)
    have k3 := k1.setCell (.iface 48 (.pointer (some ⟨w2.heap.size, 0, none⟩)))
    have k4 := k2.other (a := ⟨w.heap.size + 1, 0, none⟩) (by simp) (.iface 48 (.pointer (some ⟨w2.heap.size, 0, none⟩)))
    have hb : Same (fun k => w.heap.size ≤ k ∧ k < w.heap.size + 3) w2 (((w2.setCell ⟨w.heap.size + 1 + 1, 0, none⟩ (.bool true)).alloc (faultObj wh (.iface D x) .nilIface)).setCell ⟨w.heap.size + 1, 0, none⟩ (.iface 48 (.pointer (some ⟨w2.heap.size, 0, none⟩)))) :=
      (((Same.refl _ w2).setCell (p := ⟨w.heap.size + 1 + 1, 0, none⟩) (fun _ => in3 (Or.inr (Or.inr rfl))) _).alloc _).setCell (p := ⟨w.heap.size + 1, 0, none⟩) (fun _ => in3 (Or.inr (Or.inl rfl))) _
    have ho : (((w2.setCell ⟨w.heap.size + 1 + 1, 0, none⟩ (.bool true)).alloc (faultObj wh (.iface D x) .nilIface)).setCell ⟨w.heap.size + 1, 0, none⟩ (.iface 48 (.pointer (some ⟨w2.heap.size, 0, none⟩)))).heap[w2.heap.size]? = some (faultObj wh (.iface D x) .nilIface) := by
      rw [Below.heap_setCell _ _ _ _ (show w2.heap.size ≠ w.heap.size + 1 by omega)]
      have := heap_alloc_new (w2.setCell ⟨w.heap.size + 1 + 1, 0, none⟩ (.bool true)) (faultObj wh (.iface D x) .nilIface)
      simpa [World.setCell] using this
    have HB := Lib.hid hb; have HO := Lib.hid ho; have K3 := Lib.hid k3; have K4 := Lib.hid k4
    clear k1 k2 k3 k4 hb ho
    go_wp2_with fail
    refine leaves_cons (f := 56) (args := #[.pointer (some ⟨w.heap.size, 0, none⟩), .pointer (some ⟨w.heap.size + 1, 0, none⟩), .pointer (some ⟨w.heap.size + 1 + 1, 0, none⟩)]) (by simp) (by simp [go_sem]) ?_
    refine (back_idle _ _ _ _ K4.out).mono ?_
    rintro e u' w'' ⟨rfl, rfl, hs⟩
    have hc := (hs.one K3.out id).cell
    simp [Leaves, settle, results, Tryd.results20, go_sem, hc]
    exact ⟨_, w2, HR.out, HS.out, HB.out.trans hs (fun _ _ h => h.elim), Or.inr (Or.inl ⟨D, x, w2.heap.size, rfl, rfl, hs.obj HO.out id⟩)⟩
  · go_wp2_with fail
    refine leaves_cons (f := 56) (args := #[.pointer (some ⟨w.heap.size, 0, none⟩), .pointer (some ⟨w.heap.size + 1, 0, none⟩), .pointer (some ⟨w.heap.size + 1 + 1, 0, none⟩)]) (by simp) (by simp [go_sem]) ?_
    refine (back_panic _ _ _ wh _ T x hT _ G0.out G1.out G2.out).mono ?_
    rintro e u' w'' ⟨rfl, rfl, hs, p, hone, hp, hf⟩
    have hc := hone.cell
    simp [Leaves, settle, results, Tryd.results20, go_sem, hc]
    exact ⟨_, w2, HR.out, HS.out, hs.weaken (fun k _ h => in3 (Or.inr (Or.inl h))), Or.inr (Or.inr ⟨T, x, p, rfl, rfl, hf⟩)⟩

end Go.Proofs.YtcbapmkipcffgaaDoor
