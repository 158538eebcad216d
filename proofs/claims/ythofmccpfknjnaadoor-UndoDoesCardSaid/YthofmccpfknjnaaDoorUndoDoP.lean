/-
  The log of package undo, told of memory: Do, where what is done within errs or panics: the log goes back to where it was, and the error, or the panic, comes out. Condition: what is done within is known (the hypothesis on the call).
-/
import Derived.Test.YthofmccpfknjnaaDoorUndoE
import Derived.Tactics2
namespace Go.Proofs.YthofmccpfknjnaaDoor
open Go.RowKit

theorem wpS_behind {P : Program} {fn : Func} {c₀ : Frame} {cs : List Frame} {R : Ending → FrameMode → World → Prop} {c : Code} {u1 : FrameMode} {a : Act} {w : World} {c' : Frame} (hc : c' = { c₀ with mode := u1 })
    (h : c.wp P (bodyPost P fn fun e w' => R e u1 w') a w) : c.wpS P (bodyPostS P fn c₀ cs R) a (c' :: cs) w := by
  subst hc
  refine wpS_of_wp ?_
  intro b k cs2
  obtain ⟨e, a', w', q, r⟩ := h b k cs2
  refine ⟨e, a', w', ?_, r⟩
  cases e with
  | normal => obtain ⟨hd, v, hr, hR⟩ := q; exact ⟨hd, u1, rfl, v, hr, hR⟩
  | ret => obtain ⟨hd, v, hr, hR⟩ := q; exact ⟨hd, u1, rfl, v, hr, hR⟩
  | panic chain => obtain ⟨hd, hR⟩ := q; exact ⟨hd, u1, rfl, hR⟩
  | exit id => exact q.elim
  | goto l => exact q.elim
  | outgrown => exact ⟨u1, q⟩

set_option maxHeartbeats 4000000 in
/-- The deferred closure, where what is done within panics: the log goes back, then it panics anew. -/
theorem dodefer_panic {w : World} {B R p wb lb mb m : Nat} {fs : List Value} (J : List Value → World → Prop) (T : TypeId) (v : Value) (hw : One w wb (.bool false) 4) (hl : One w lb (.pointer (some ⟨p, 0, none⟩)) 23) (hmb : One w mb (.int .i64 m) 3)
    (step : ∀ gs f w, m ≤ gs.length → gs ++ [f] <+: fs → J (gs ++ [f]) w → LogAtR w B R p gs → StepOf B R p J gs f w)
    (stab : ∀ gs w w', J gs w → LogKeptR B R p w w' → J gs w') (hJ : J fs w) (h : LogAtR w B R p fs) (hm : m ≤ fs.length) (hn : fs.length ≤ 1000000) :
    CallsD Tryd.prog 21 #[.pointer (some ⟨wb, 0, none⟩), .pointer (some ⟨lb, 0, none⟩), .pointer (some ⟨mb, 0, none⟩)] (.panicking [{ v := .iface T v, recovered := false }]) w fun e u' w' =>
      e = .panicked [{ v := .iface T v, recovered := false }] ∧ u' = .panicking [{ v := .iface T v, recovered := true }] ∧ J (fs.take m) w' ∧ LogAtR w' B R p (fs.take m) := by
  have c0 := hw.cell
  have c1 := hl.cell
  have c2 := hmb.cell
  have HS := Lib.hid step; have HT := Lib.hid stab; have HJ := Lib.hid hJ; have HL := Lib.hid h
  clear hw hl hmb step stab hJ h
  refine callsD_of_wpS Tryd.func21 rfl fun c₀ cs hu => ?_
  simp only [Tryd.ntmps21, List.size_toArray, List.length_cons, List.length_nil, Nat.reduceAdd, Nat.reduceSub, Array.replicate_succ,
     Array.replicate_zero, List.push_toArray, List.append_toArray, List.nil_append, List.cons_append]
  apply wpS_seq
  refine wpS_of_wp ?_
  go_wp2_with fail
  simp only [Exit.thenS]
  apply wpS_seq
  refine wpS_of_wp ?_
  go_wp2_with fail
  refine (back_yes J m fs HS.out HT.out w HJ.out HL.out hm hn).mono ?_
  rintro e w1 ⟨rfl, hj, hl⟩
  have HJ1 := Lib.hid hj; have HL1 := Lib.hid hl
  clear hj hl c0 c1 c2
  go_wp2_with fail
  simp only [Exit.thenS]
  apply wpS_seq
  apply wpS_region
  simp [wpOpsS, go_sem, recoverD, hu, Exit.thenS]
  refine wpS_behind rfl ?_
  go_wp2_with fail
  exact ⟨rfl, rfl, HJ1.out, HL1.out⟩

set_option maxHeartbeats 400000 in
/-- Do, where what is done within errs: the log goes back to where it was. -/
theorem do_err2 {w : World} {B R p : Nat} {fs : List Value} (h : LogAtR w B R p fs) (fn : FuncId) (cap : Array Value) (hcf : ∀ w, (callFunc fn cap).run Tryd.prog w = .ok (.enter fn cap) w) (t : TypeId) (v : Value)
    (J : List Value → World → Prop)
    (step : ∀ hs f w, fs.length ≤ hs.length → J (hs ++ [f]) w → LogAtR w B R p hs → StepOf B R p J hs f w)
    (stab : ∀ hs w w', J hs w → LogKeptR B R p w w' → J hs w')
    (hcall : Calls Tryd.prog fn cap (doWorld w p fs.length) fun e w' => e = .returned (.iface t v) ∧ One w' w.heap.size (.pointer (some ⟨p, 0, none⟩)) 23 ∧ One w' (w.heap.size + 1) (.int .i64 fs.length) 3 ∧ One w' (w.heap.size + 2) (.bool false) 4 ∧
      ∃ gs, (fs ++ gs).length ≤ 1000000 ∧ LogAtR (w'.setCell ⟨w.heap.size + 2, 0, none⟩ (.bool false)) B R p (fs ++ gs) ∧ J (fs ++ gs) (w'.setCell ⟨w.heap.size + 2, 0, none⟩ (.bool false))) :
    Calls Tryd.prog 18 #[.pointer (some ⟨p, 0, none⟩), .func (.func fn) #[] cap] w fun e w' => e = .returned (.iface t v) ∧ J fs w' ∧ LogAtR w' B R p fs := by
  have hl1 : LogAtR (w.alloc (.cells #[.pointer (some ⟨p, 0, none⟩)] 23)) B R p fs := h.alloc _
  have HC := Lib.hid hcall; have HL := Lib.hid hl1; have HS := Lib.hid step; have HT := Lib.hid stab
  clear hcall hl1 h step stab
  go_enter_defers Tryd.func18, Tryd.ntmps18
  go_wp2_with fail
  refine (mark_any HL.out).mono ?_
  rintro e w1 ⟨rfl, rfl⟩
  go_wp2_with fail
  refine HC.out.mono ?_
  rintro e w2 ⟨rfl, ol, om, ow, gs, hlen, hl2, hj2⟩
  have c0 := ow.cell
  have f0 := ow.free
  have OL := Lib.hid (ol.other (a := ⟨w.heap.size + 2, 0, none⟩) (by simp) (.bool false)); have OM := Lib.hid (om.other (a := ⟨w.heap.size + 2, 0, none⟩) (by simp) (.bool false)); have OW := Lib.hid (ow.setCell (.bool false)); have HL2 := Lib.hid hl2; have HJ2 := Lib.hid hj2
  clear ol om ow hl2 hj2
  go_wp2_with fail
  refine leaves_cons (f := 21) (args := #[.pointer (some ⟨w.heap.size + 1 + 1, 0, none⟩), .pointer (some ⟨w.heap.size, 0, none⟩), .pointer (some ⟨w.heap.size + 1, 0, none⟩)]) (by simp) (by simp only [invoke, Array.empty_append]; exact do_calls _ _) ?_
  refine (dodefer_back J OW.out OL.out OM.out (fun hs f w hm _ => HS.out hs f w hm) HT.out HJ2.out HL2.out (by simp) hlen).mono ?_
  rintro e u' w3 ⟨rfl, rfl, hj3, hl3⟩
  rw [List.take_left] at hj3 hl3
  refine ⟨.iface t v, by simp [results, Tryd.results18, go_sem], rfl, hj3, hl3⟩

set_option maxHeartbeats 400000 in
/-- Do, where what is done within panics: the log goes back to where it was, and the panic comes out. -/
theorem do_panic {w : World} {B R p : Nat} {fs : List Value} (h : LogAtR w B R p fs) (fn : FuncId) (cap : Array Value) (hcf : ∀ w, (callFunc fn cap).run Tryd.prog w = .ok (.enter fn cap) w) (t : TypeId) (v : Value)
    (J : List Value → World → Prop)
    (step : ∀ hs f w, fs.length ≤ hs.length → J (hs ++ [f]) w → LogAtR w B R p hs → StepOf B R p J hs f w)
    (stab : ∀ hs w w', J hs w → LogKeptR B R p w w' → J hs w')
    (hcall : Calls Tryd.prog fn cap (doWorld w p fs.length) fun e w' => e = .panicked [{ v := .iface t v, recovered := false }] ∧ One w' w.heap.size (.pointer (some ⟨p, 0, none⟩)) 23 ∧ One w' (w.heap.size + 1) (.int .i64 fs.length) 3 ∧ One w' (w.heap.size + 2) (.bool false) 4 ∧
      ∃ gs, (fs ++ gs).length ≤ 1000000 ∧ LogAtR w' B R p (fs ++ gs) ∧ J (fs ++ gs) w') :
    Calls Tryd.prog 18 #[.pointer (some ⟨p, 0, none⟩), .func (.func fn) #[] cap] w fun e w' => e = .panicked [{ v := .iface t v, recovered := false }, { v := .iface t v, recovered := true }] ∧ J fs w' ∧ LogAtR w' B R p fs := by
  have hl1 : LogAtR (w.alloc (.cells #[.pointer (some ⟨p, 0, none⟩)] 23)) B R p fs := h.alloc _
  have HC := Lib.hid hcall; have HL := Lib.hid hl1; have HS := Lib.hid step; have HT := Lib.hid stab
  clear hcall hl1 h step stab
  go_enter_defers Tryd.func18, Tryd.ntmps18
  go_wp2_with fail
  refine (mark_any HL.out).mono ?_
  rintro e w1 ⟨rfl, rfl⟩
  go_wp2_with fail
  refine HC.out.mono ?_
  rintro e w2 ⟨rfl, ol, om, ow, gs, hlen, hl2, hj2⟩
  have OL := Lib.hid ol; have OM := Lib.hid om; have OW := Lib.hid ow; have HL2 := Lib.hid hl2; have HJ2 := Lib.hid hj2
  clear ol om ow hl2 hj2
  go_wp2_with fail
  refine leaves_cons (f := 21) (args := #[.pointer (some ⟨w.heap.size + 1 + 1, 0, none⟩), .pointer (some ⟨w.heap.size, 0, none⟩), .pointer (some ⟨w.heap.size + 1, 0, none⟩)]) (by simp) (by simp only [invoke, Array.empty_append]; exact do_calls _ _) ?_
  refine (dodefer_panic J t v OW.out OL.out OM.out (fun hs f w hm _ => HS.out hs f w hm) HT.out HJ2.out HL2.out (by simp) hlen).mono ?_
  rintro e u' w3 ⟨rfl, rfl, hj3, hl3⟩
  rw [List.take_left] at hj3 hl3
  exact ⟨rfl, hj3, hl3⟩

end Go.Proofs.YthofmccpfknjnaaDoor
