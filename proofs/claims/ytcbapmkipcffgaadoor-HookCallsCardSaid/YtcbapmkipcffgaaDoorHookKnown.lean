/-
  The hooks' laws' own beginning: known answers. Conditions: none.
-/
import Derived.Test.YtcbapmkipcffgaaDoorTell
namespace Go.Proofs.YtcbapmkipcffgaaDoor
open Go.RowKit Go.Extern.Stop Go.Stop Go.Extern Go.Lib

theorem noErr_int (v : Value) : NoErr (.iface 3 v) := fun w => run_typeAssert_lacksB Tryd.underlying25 (by kernel_rfl) (by kernel_rfl) v 20 w
theorem miss_errno (n : Int) : MissTw (.iface 46 (.int .i64 n)) := fun tgt a w => tw_miss_en _ tgt a w

theorem ok_int (n : Int) : FaultOk .nilIface (.iface 3 (.int .i64 n)) := Or.inr (Or.inl ⟨rfl, noErr_int _⟩)
theorem ok_errno (n : Int) (pan : Value) : FaultOk (.iface 46 (.int .i64 n)) pan := Or.inl ⟨_, _, rfl, miss_errno n⟩

theorem known1 (w : World) : Calls Tryd.prog 51 #[] w fun e w' => e = .panicked [{ v := .iface 3 (.int .i64 5), recovered := false }] ∧ w = w' := by
  go_enter Tryd.func51, Tryd.ntmps51
  go_wp2
  exact ⟨rfl, rfl, rfl⟩

theorem known2 (w : World) : Calls Tryd.prog 52 #[] w fun e w' => e = .returned .nilIface ∧ w = w' := by
  go_enter Tryd.func52, Tryd.ntmps52
  go_wp2
  go_ret
  exact ⟨rfl, rfl⟩

theorem call_enter1 (args : Array Value) (w : World) : (callFunc 51 args).run Tryd.prog w = .ok (.enter 51 args) w := by kernel_rfl
theorem call_enter2 (args : Array Value) (w : World) : (callFunc 52 args).run Tryd.prog w = .ok (.enter 52 args) w := by kernel_rfl

theorem Handle.lt {w : World} (h : Handle w) : 0 < w.heap.size := by
  unfold Handle at h
  rcases Nat.lt_or_ge 0 w.heap.size with h1 | h1
  · exact h1
  · simp [World.cell?, Array.getElem?_eq_none h1] at h

/-- Run of code that panics with an int. -/
theorem run_panics {wh : ByteArray} {g : FuncId} {caps : Array Value} {w : World} {n : Int} (hg : ∀ (args : Array Value) (w : World), (callFunc g args).run Tryd.prog w = .ok (.enter g args) w)
    (hf : Calls Tryd.prog g caps (run3 w wh) fun e w2 => e = .panicked [{ v := .iface 3 (.int .i64 n), recovered := false }] ∧ Same (fun _ => False) (run3 w wh) w2) :
    Calls Tryd.prog 20 #[.string wh, .func (.func g) #[] caps] w fun e w' => ∃ p, e = .returned (faultV p) ∧ w'.heap[p]? = some (faultObj wh .nilIface (.iface 3 (.int .i64 n))) ∧ Same (fun _ => False) w w' :=
  (run_any (wh := wh) (R := fun e w2 => e = .panicked [{ v := .iface 3 (.int .i64 n), recovered := false }]) (F := fun _ => False) (fun _ h => h.elim) hg
    (hf.mono fun e w2 ⟨h1, h2⟩ => ⟨h2, h1, Or.inr (Or.inr ⟨_, _, by decide, h1⟩)⟩)).mono fun e w' ⟨e0, w0, hr, h1, h2, ht⟩ => by
      subst hr
      rcases ht with ⟨h, _⟩ | ⟨D, x, p, h, _⟩ | ⟨T, x, p, h, rfl, ho⟩
      · cases h
      · cases h
      · simp only [Ending.panicked.injEq, List.cons.injEq, PanicEntry.mk.injEq, Value.iface.injEq, and_true] at h
        obtain ⟨rfl, rfl⟩ := h
        exact ⟨p, rfl, ho, h1.trans h2 (fun k hk h => by omega)⟩

/-- Run of code that tells nothing. -/
theorem run_fine {wh : ByteArray} {g : FuncId} {caps : Array Value} {w : World} {F : Nat → Prop} {R : World → Prop} (hF : ∀ k, F k → k < w.heap.size) (hg : ∀ (args : Array Value) (w : World), (callFunc g args).run Tryd.prog w = .ok (.enter g args) w)
    (hf : Calls Tryd.prog g caps (run3 w wh) fun e w2 => e = .returned .nilIface ∧ Same F (run3 w wh) w2 ∧ R w2) :
    Calls Tryd.prog 20 #[.string wh, .func (.func g) #[] caps] w fun e w' => e = .returned .nilIface ∧ Same F w w' ∧ ∃ w2, R w2 ∧ Same (fun k => w.heap.size ≤ k ∧ k < w.heap.size + 3) w2 w' :=
  (run_any (wh := wh) (R := fun e w2 => e = .returned .nilIface ∧ R w2) (F := F) hF hg
    (hf.mono fun e w2 ⟨h1, h2, h3⟩ => ⟨h2, ⟨h1, h3⟩, Or.inl h1⟩)).mono fun e w' ⟨e0, w0, hr, h1, h2, ht⟩ => by
      obtain ⟨rfl, hr⟩ := hr
      rcases ht with ⟨_, rfl⟩ | ⟨D, x, p, h, _⟩ | ⟨T, x, p, h, _⟩
      · exact ⟨rfl, h1.trans h2 (fun k hk h => by omega), w0, hr, h2⟩
      · cases h
      · cases h

set_option maxRecDepth 100000 in
set_option maxHeartbeats 4000000 in
theorem known_any {w : World} (hg : Handle w) : Calls Tryd.prog 12 #[] w fun e w' => e = .returned (.bool true) ∧ Same (fun _ => False) w w' := by
  have HG := Lib.hid hg; clear hg
  go_enter Tryd.func12, Tryd.ntmps12
  go_wp2_with fail
  refine (run_panics (n := 5) call_enter1 ((known1 _).mono fun e w2 ⟨h1, h2⟩ => ⟨h1, h2 ▸ Same.refl _ _⟩)).mono ?_
  rintro e w1 ⟨p, rfl, ho, hs⟩
  have HG1 := Lib.hid (HG.out.same hs id); have HO := Lib.hid ho; have HS := Lib.hid hs
  clear ho hs
  go_wp2_with fail
  refine (class_fault HO.out (ok_int 5) HG1.out).mono ?_
  rintro e w2 ⟨rfl, hs⟩
  have HG2 := Lib.hid (HG1.out.same hs id); have HO2 := Lib.hid (hs.obj HO.out id); have HS2 := Lib.hid (HS.out.trans hs (fun _ _ h => h))
  clear hs HG1 HO HS
  go_wp2_with fail
  refine (where_fault HO2.out (ok_int 5) HG2.out).mono ?_
  rintro e w3 ⟨rfl, hs⟩
  have HG3 := Lib.hid (HG2.out.same hs id); have HO3 := Lib.hid (hs.obj HO2.out id); have HS3 := Lib.hid (HS2.out.trans hs (fun _ _ h => h))
  clear hs HG2 HO2 HS2
  go_wp2_with fail
  refine (struck_int HO3.out HG3.out).mono ?_
  rintro e w4 ⟨rfl, hs⟩
  have HG4 := Lib.hid (HG3.out.same hs id); have HS4 := Lib.hid (HS3.out.trans hs (fun _ _ h => h))
  clear hs HG3 HO3 HS3
  go_wp2_with fail
  refine (run_fine (R := fun _ => True) (F := fun _ => False) (fun _ h => h.elim) call_enter2 ((known2 _).mono fun e w2 ⟨h1, h2⟩ => ⟨h1, h2 ▸ Same.refl _ _, trivial⟩)).mono ?_
  rintro e w5 ⟨rfl, hs, _⟩
  have HG5 := Lib.hid (HG4.out.same hs id); have HS5 := Lib.hid (HS4.out.trans hs (fun _ _ h => h))
  clear hs HG4 HS4
  go_wp2_with fail
  refine (run_none _ _).mono ?_
  rintro e w6 ⟨hs, p2, rfl, _, ho⟩
  have HG6 := Lib.hid (HG5.out.same hs id); have HO6 := Lib.hid ho; have HS6 := Lib.hid (HS5.out.trans hs (fun _ _ h => h))
  clear hs ho HG5 HS5
  go_wp2_with fail
  refine (class_fault HO6.out (ok_errno 50 _) HG6.out).mono ?_
  rintro e w7 ⟨rfl, hs⟩
  have HS7 := Lib.hid (HS6.out.trans hs (fun _ _ h => h))
  clear hs
  go_wp2_with fail
  go_ret
  exact ⟨rfl, HS7.out⟩

end Go.Proofs.YtcbapmkipcffgaaDoor
