/-
  The log of package undo, told of memory: Do: what is done within is kept if it goes well; if it errs the log goes back. Condition: what is done within is known (the hypothesis on the call).
-/
import Derived.Test.YthofmccpfknjnaaDoorUndoD
import Derived.Recover
namespace Go.Proofs.YthofmccpfknjnaaDoor
open Go.RowKit

/-- The deferred closure, where all went well. -/
theorem dodefer_well {w : World} {wb lb mb : Nat} (hw : One w wb (.bool true) 4) :
    CallsD Tryd.prog 21 #[.pointer (some ⟨wb, 0, none⟩), .pointer (some ⟨lb, 0, none⟩), .pointer (some ⟨mb, 0, none⟩)] .returning w fun e u' w' => u' = .returning ∧ e = .returned (.tuple #[]) ∧ w = w' := by
  have c0 := hw.cell
  clear hw
  go_enter_d Tryd.func21, Tryd.ntmps21
  go_wp2_with fail
  refine bodyPost_ret (results_none rfl _ _ _) rfl ?_
  exact ⟨rfl, rfl⟩

/-- The deferred closure, where it did not go well and nothing panics: the log goes back. -/
theorem dodefer_back {w : World} {B R p wb lb mb m : Nat} {fs : List Value} (J : List Value → World → Prop) (hw : One w wb (.bool false) 4) (hl : One w lb (.pointer (some ⟨p, 0, none⟩)) 23) (hmb : One w mb (.int .i64 m) 3)
    (step : ∀ gs f w, m ≤ gs.length → gs ++ [f] <+: fs → J (gs ++ [f]) w → LogAtR w B R p gs → StepOf B R p J gs f w)
    (stab : ∀ gs w w', J gs w → LogKeptR B R p w w' → J gs w') (hJ : J fs w) (h : LogAtR w B R p fs) (hm : m ≤ fs.length) (hn : fs.length ≤ 1000000) :
    CallsD Tryd.prog 21 #[.pointer (some ⟨wb, 0, none⟩), .pointer (some ⟨lb, 0, none⟩), .pointer (some ⟨mb, 0, none⟩)] .returning w fun e u' w' => e = .returned (.tuple #[]) ∧ u' = .returning ∧ J (fs.take m) w' ∧ LogAtR w' B R p (fs.take m) := by
  have c0 := hw.cell
  have c1 := hl.cell
  have c2 := hmb.cell
  have HS := Lib.hid step; have HT := Lib.hid stab; have HJ := Lib.hid hJ; have HL := Lib.hid h
  clear hw hl hmb step stab hJ h
  refine callsD_of_wpS Tryd.func21 rfl fun c₀ cs hu => ?_
  simp only [Tryd.ntmps21, List.size_toArray, List.length_cons, List.length_nil, Nat.reduceAdd, Nat.reduceSub, Array.replicate_succ,
     Array.replicate_zero, List.push_toArray, List.append_toArray, List.nil_append, List.cons_append]
  apply wpS_seq
  refine wpS_of_wp ?_
  go_wp2_with fail
  simp only [Exit.thenS]
  apply wpS_seq
  refine wpS_of_wp ?_
  go_wp2_with fail
  refine (back_yes J m fs HS.out HT.out w HJ.out HL.out hm hn).mono ?_
  rintro e w1 ⟨rfl, hj, hl⟩
  have HJ1 := Lib.hid hj; have HL1 := Lib.hid hl
  clear hj hl c0 c1 c2
  go_wp2_with fail
  simp only [Exit.thenS]
  apply wpS_seq
  apply wpS_region
  simp [wpOpsS, go_sem, recoverD, hu, Exit.thenS]
  refine wpS_of_wp ?_
  go_wp2_with fail
  refine ⟨rfl, .returning, ?_, .tuple #[], by simp [results, Tryd.results21], rfl, rfl, HJ1.out, HL1.out⟩
  cases c₀
  simp only at hu
  subst hu
  rfl

theorem do_calls (cap : Array Value) (w : World) : (callFunc 21 cap).run Tryd.prog w = .ok (.enter 21 cap) w := by kernel_rfl

/-- The three blocks that Do lays before it calls what is to be done. -/
def doWorld (w : World) (p n : Nat) : World :=
  ((w.alloc (.cells #[.pointer (some ⟨p, 0, none⟩)] 23)).alloc (.cells #[.int .i64 n] 3)).alloc (.cells #[.bool false] 4)

theorem do_same (w : World) (p n : Nat) : Same (fun _ => False) w (doWorld w p n) := (((Same.refl _ w).alloc _).alloc _).alloc _

theorem do_l (w : World) (p n : Nat) : One (doWorld w p n) w.heap.size (.pointer (some ⟨p, 0, none⟩)) 23 := ((One.new w _ _).alloc _).alloc _
theorem do_m (w : World) (p n : Nat) : One (doWorld w p n) (w.heap.size + 1) (.int .i64 n) 3 := by
  have := (One.new (w.alloc (.cells #[.pointer (some ⟨p, 0, none⟩)] 23)) (.int .i64 n) 3).alloc (.cells #[.bool false] 4)
  simpa [doWorld] using this
theorem do_w (w : World) (p n : Nat) : One (doWorld w p n) (w.heap.size + 2) (.bool false) 4 := by
  have := One.new ((w.alloc (.cells #[.pointer (some ⟨p, 0, none⟩)] 23)).alloc (.cells #[.int .i64 n] 3)) (.bool false) 4
  simpa [doWorld] using this

set_option maxHeartbeats 400000 in
/-- Do, where what is done within goes well: it is kept. -/
theorem do_nil {w : World} {B R p : Nat} {fs : List Value} (h : LogAtR w B R p fs) (fn : FuncId) (cap : Array Value) (hcf : ∀ w, (callFunc fn cap).run Tryd.prog w = .ok (.enter fn cap) w)
    (Post : World → Prop) (hcall : Calls Tryd.prog fn cap (doWorld w p fs.length) fun e w' => e = .returned .nilIface ∧ Post w')
    (hold : ∀ w', Post w' → One w' (w.heap.size + 2) (.bool false) 4) :
    Calls Tryd.prog 18 #[.pointer (some ⟨p, 0, none⟩), .func (.func fn) #[] cap] w fun e w' => e = .returned .nilIface ∧ ∃ w1, Post w1 ∧ w' = w1.setCell ⟨w.heap.size + 2, 0, none⟩ (.bool true) := by
  have hl1 : LogAtR (w.alloc (.cells #[.pointer (some ⟨p, 0, none⟩)] 23)) B R p fs := h.alloc _
  have HC := Lib.hid hcall; have HO := Lib.hid hold; have HL := Lib.hid hl1
  clear hcall hold hl1 h
  go_enter_defers Tryd.func18, Tryd.ntmps18
  go_wp2_with fail
  refine (mark_any HL.out).mono ?_
  rintro e w1 ⟨rfl, rfl⟩
  go_wp2_with fail
  refine HC.out.mono ?_
  rintro e w2 ⟨rfl, hp⟩
  have hw2 := HO.out _ hp
  have c0 := hw2.cell
  have f0 := hw2.free
  have HP := Lib.hid hp; have HW := Lib.hid hw2
  clear hp hw2
  go_wp2_with fail
  refine leaves_cons (f := 21) (args := #[.pointer (some ⟨w.heap.size + 1 + 1, 0, none⟩), .pointer (some ⟨w.heap.size, 0, none⟩), .pointer (some ⟨w.heap.size + 1, 0, none⟩)]) (by simp) (by simp only [invoke, Array.empty_append]; exact do_calls _ _) ?_
  refine (dodefer_well (HW.out.setCell (.bool true))).mono ?_
  rintro e u' w3 ⟨rfl, rfl, rfl⟩
  refine ⟨.nilIface, by simp [results, Tryd.results18, go_sem], rfl, w2, HP.out, rfl⟩

set_option maxHeartbeats 400000 in
/-- Do, where what is done within errs: the log goes back to where it was. -/
theorem do_err {w : World} {B R p : Nat} {fs : List Value} (h : LogAtR w B R p fs) (fn : FuncId) (cap : Array Value) (hcf : ∀ w, (callFunc fn cap).run Tryd.prog w = .ok (.enter fn cap) w) (t : TypeId) (v : Value)
    (J : List Value → World → Prop)
    (step : ∀ hs f w, J (hs ++ [f]) w → LogAtR w B R p hs → StepOf B R p J hs f w)
    (stab : ∀ hs w w', J hs w → LogKeptR B R p w w' → J hs w')
    (hcall : Calls Tryd.prog fn cap (doWorld w p fs.length) fun e w' => e = .returned (.iface t v) ∧ One w' w.heap.size (.pointer (some ⟨p, 0, none⟩)) 23 ∧ One w' (w.heap.size + 1) (.int .i64 fs.length) 3 ∧ One w' (w.heap.size + 2) (.bool false) 4 ∧
      ∃ gs, (fs ++ gs).length ≤ 1000000 ∧ LogAtR (w'.setCell ⟨w.heap.size + 2, 0, none⟩ (.bool false)) B R p (fs ++ gs) ∧ J (fs ++ gs) (w'.setCell ⟨w.heap.size + 2, 0, none⟩ (.bool false))) :
    Calls Tryd.prog 18 #[.pointer (some ⟨p, 0, none⟩), .func (.func fn) #[] cap] w fun e w' => e = .returned (.iface t v) ∧ J fs w' ∧ LogAtR w' B R p fs := by
  have hl1 : LogAtR (w.alloc (.cells #[.pointer (some ⟨p, 0, none⟩)] 23)) B R p fs := h.alloc _
  have HC := Lib.hid hcall; have HL := Lib.hid hl1; have HS := Lib.hid step; have HT := Lib.hid stab
  clear hcall hl1 h step stab
  go_enter_defers Tryd.func18, Tryd.ntmps18
  go_wp2_with fail
  refine (mark_any HL.out).mono ?_
  rintro e w1 ⟨rfl, rfl⟩
  go_wp2_with fail
  refine HC.out.mono ?_
  rintro e w2 ⟨rfl, ol, om, ow, gs, hlen, hl2, hj2⟩
  have c0 := ow.cell
  have f0 := ow.free
  have OL := Lib.hid (ol.other (a := ⟨w.heap.size + 2, 0, none⟩) (by simp) (.bool false)); have OM := Lib.hid (om.other (a := ⟨w.heap.size + 2, 0, none⟩) (by simp) (.bool false)); have OW := Lib.hid (ow.setCell (.bool false)); have HL2 := Lib.hid hl2; have HJ2 := Lib.hid hj2
  clear ol om ow hl2 hj2
  go_wp2_with fail
  refine leaves_cons (f := 21) (args := #[.pointer (some ⟨w.heap.size + 1 + 1, 0, none⟩), .pointer (some ⟨w.heap.size, 0, none⟩), .pointer (some ⟨w.heap.size + 1, 0, none⟩)]) (by simp) (by simp only [invoke, Array.empty_append]; exact do_calls _ _) ?_
  refine (dodefer_back J OW.out OL.out OM.out (fun hs f w _ _ => HS.out hs f w) HT.out HJ2.out HL2.out (by simp) hlen).mono ?_
  rintro e u' w3 ⟨rfl, rfl, hj3, hl3⟩
  rw [List.take_left] at hj3 hl3
  refine ⟨.iface t v, by simp [results, Tryd.results18, go_sem], rfl, hj3, hl3⟩

end Go.Proofs.YthofmccpfknjnaaDoor
