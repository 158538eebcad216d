/-
  What the hooks' laws ask of a Fault that bears a Mark: Is, Wraps, Struck. Conditions: none.
-/
import Derived.Test.YtcbapmkipcffgaaDoorFaultMk
import Derived.Test.YtcbapmkipcffgaaDoorTell
namespace Go.Proofs.YtcbapmkipcffgaaDoor
open Go.RowKit Go.Extern.Stop Go.Stop Go.Extern Go.Lib

theorem unw_err {w : World} {p : Nat} {wh : ByteArray} {D : TypeId} {x pan : Value} (h : w.heap[p]? = some (faultObj wh (.iface D x) pan)) : Unwraps w p [errCb, .iface D x] := unwrap_err h
theorem unw_pan {w : World} {p : Nat} {wh : ByteArray} {v : Value} (h : w.heap[p]? = some (faultObj wh .nilIface v)) (hn : NoErr v) : Unwraps w p [errCb] := unwrap_pan h hn
theorem unw_panerr {w : World} {p : Nat} {wh : ByteArray} {T : TypeId} {x : Value} (h : w.heap[p]? = some (faultObj wh .nilIface (.iface T x))) (hn : IsErr (.iface T x)) : Unwraps w p [errCb, .iface T x] := unwrap_panerr h hn

theorem is_cb {w : World} {p : Nat} {l : List Value} (hu : Unwraps w p (errCb :: l)) :
    Calls Tryd.prog 24 #[faultV p, errCb] w fun e w' => e = .returned (.bool true) ∧ Same (fun _ => False) w w' := is_head _ _ 50 w (is_fault_cb hu)
theorem is_other {w : World} {p : Nat} {m : Int} (hm : (50 : Int) ≠ m) (hu : Unwraps w p [errCb, errNo m]) :
    Calls Tryd.prog 24 #[faultV p, errNo m] w fun e w' => e = .returned (.bool true) ∧ Same (fun _ => False) w w' := is_head _ _ m w (is_fault_second hm hu)

theorem mk_as_fault {w : World} {p pe tb : Nat} {old : Value} (hu : ∀ w', Same (fun _ => False) w w' → Unwraps w' p [errCb, markV pe]) (hg : Handle w) (ht : One w tb old 41) :
    Calls Tryd.prog 23 #[faultV p, .iface 109 (.pointer (some ⟨tb, 0, none⟩))] w fun e w' => e = .returned (.bool true) ∧ Same (fun k => k = tb) w w' ∧ One w' tb (.pointer (some ⟨pe, 0, none⟩)) 41 := by
  have hs0 := ((Same.refl (fun _ => False) w).alloc (.cells #[.pointer (some ⟨tb, 0, none⟩)] 109)).alloc (mkBox w.heap.size)
  have hs : Same (fun k => k = tb) w _ := hs0.weaken (fun _ _ h => h.elim)
  have ht2 := (ht.alloc (.cells #[.pointer (some ⟨tb, 0, none⟩)] 109)).alloc (mkBox w.heap.size)
  have ha := (One.new w (.pointer (some ⟨tb, 0, none⟩)) 109).alloc (mkBox w.heap.size)
  refine (mk_head _ _ ⟨tb, 0, none⟩ w hg (Q := fun b w' => b = true ∧ Same (fun k => k = tb) w w' ∧ One w' tb (.pointer (some ⟨pe, 0, none⟩)) 41) ?_).mono ?_
  · exact (mk_fault (hu _ (hs0.alloc _)) ha ht2 _).mono fun e w' ⟨b, e1, e2, e3, e4⟩ => ⟨b, e1, e2, hs.trans e3 (fun _ _ h => h), e4⟩
  · rintro e w' ⟨b, rfl, rfl, h⟩
    exact ⟨rfl, h⟩

theorem mk_as_mark {w : World} {pe tb : Nat} {old : Value} (hg : Handle w) (ht : One w tb old 41) :
    Calls Tryd.prog 23 #[markV pe, .iface 109 (.pointer (some ⟨tb, 0, none⟩))] w fun e w' => e = .returned (.bool true) ∧ Same (fun k => k = tb) w w' ∧ One w' tb (.pointer (some ⟨pe, 0, none⟩)) 41 := by
  have hs0 := ((Same.refl (fun _ => False) w).alloc (.cells #[.pointer (some ⟨tb, 0, none⟩)] 109)).alloc (mkBox w.heap.size)
  have hs : Same (fun k => k = tb) w _ := hs0.weaken (fun _ _ h => h.elim)
  have ht2 := (ht.alloc (.cells #[.pointer (some ⟨tb, 0, none⟩)] 109)).alloc (mkBox w.heap.size)
  have ha := (One.new w (.pointer (some ⟨tb, 0, none⟩)) 109).alloc (mkBox w.heap.size)
  refine (mk_head _ _ ⟨tb, 0, none⟩ w hg (Q := fun b w' => b = true ∧ Same (fun k => k = tb) w w' ∧ One w' tb (.pointer (some ⟨pe, 0, none⟩)) 41) ?_).mono ?_
  · exact (mk_hit ⟨pe, 0, none⟩ _ _ tb old _ ha ht2).mono fun e w' ⟨b, e1, e2, e3, e4⟩ => ⟨b, e1, e2, hs.trans e3 (fun _ _ h => h), e4⟩
  · rintro e w' ⟨b, rfl, rfl, h⟩
    exact ⟨rfl, h⟩

set_option maxRecDepth 100000 in
theorem wraps_plain {w : World} {p : Nat} {l : List Value} (hu : Unwraps w p (errCb :: l)) :
    Calls Tryd.prog 25 #[faultV p, .bool false] w fun e w' => e = .returned (.bool true) ∧ Same (fun _ => False) w w' := by
  have HI := Lib.hid (is_cb hu); clear hu
  go_enter Tryd.func25, Tryd.ntmps25
  go_wp2_with fail
  refine HI.out.mono ?_
  rintro e w1 ⟨rfl, hs⟩
  have HS := Lib.hid (hs.alloc (.cells #[.pointer none] 41)); clear hs HI
  go_wp2_with fail
  go_ret
  exact ⟨rfl, HS.out⟩

set_option maxRecDepth 100000 in
theorem wraps_told {w : World} {p pe : Nat} (hu : ∀ w', Same (fun _ => False) w w' → Unwraps w' p [errCb, markV pe]) (hg : Handle w) :
    Calls Tryd.prog 25 #[faultV p, .bool true] w fun e w' => e = .returned (.bool true) ∧ Same (fun _ => False) w w' := by
  have HI := Lib.hid (is_cb (hu w (Same.refl _ w))); have HU := Lib.hid hu; have HG := Lib.hid hg; clear hu hg
  go_enter Tryd.func25, Tryd.ntmps25
  go_wp2_with fail
  refine HI.out.mono ?_
  rintro e w1 ⟨rfl, hs⟩
  have hs2 := hs.alloc (.cells #[.pointer none] 41)
  have hsz := hs.size
  have HA := Lib.hid (mk_as_fault (w := w1.alloc (.cells #[.pointer none] 41)) (fun w' h => HU.out w' (hs2.trans h (fun _ _ h => h))) (HG.out.same hs2 id) (One.new w1 (.pointer none) 41))
  have HS2 := Lib.hid hs2
  clear hs hs2 HI
  go_wp2_with fail
  refine HA.out.mono ?_
  rintro e w2 ⟨rfl, hs, _⟩
  have HS3 := Lib.hid (HS2.out.trans hs (fun k hk h => by omega)); clear hs
  go_wp2_with fail
  go_ret
  exact ⟨rfl, HS3.out⟩

theorem mark_mark (pe : Nat) (w : World) : (Instr.typeAssert (markV pe) 20 41 true).run Tryd.prog w = .ok (.tuple #[.pointer (some ⟨pe, 0, none⟩), .bool true]) w := by kernel_rfl

set_option maxRecDepth 100000 in
set_option maxHeartbeats 1000000 in
/-- Struck of a Fault that bears a Mark that was panicked with. -/
theorem struck_pan {w : World} {p pe : Nat} {wh : ByteArray} {n : Int} (h : w.heap[p]? = some (faultObj wh .nilIface (markV pe))) (hm : One w pe (.int .i64 n) 43) (hg : Handle w) :
    Calls Tryd.prog 14 #[faultV p] w fun e w' => e = .returned (.int .i64 n) ∧ Same (fun _ => False) w w' := by
  have hs1 := (Same.refl (fun _ => False) w).alloc (.cells #[.pointer none] 48)
  have hg1 := hg.alloc (.cells #[.pointer none] 48)
  have HF := Lib.hid (fa_as p w.heap.size hg1 (One.new w (.pointer none) 48))
  have HS1 := Lib.hid hs1; have HH := Lib.hid h; have HM := Lib.hid hm
  have tm := mark_mark pe
  clear hs1 hg1 h hg hm
  go_enter Tryd.func14, Tryd.ntmps14
  go_wp2_with fail
  refine HF.out.mono ?_
  rintro e w2 ⟨rfl, hs, ho⟩
  have hs3 := (HS1.out.trans hs (fun k hk he => by omega)).alloc (.cells #[.pointer none] 41)
  have ho2 := ho.alloc (.cells #[.pointer none] 41)
  have hc := ho2.cell
  have hc0 := ho.cell
  have hol := ho.lt
  have hcm := (hs3.one HM.out id).cell
  obtain ⟨c0, c1, c2⟩ := fault_cells (hs3.obj HH.out id)
  have HS3 := Lib.hid hs3
  clear hs hs3 ho HF HS1 ho2
  go_wp2_with fail
  go_ret
  exact ⟨rfl, HS3.out⟩

set_option maxRecDepth 100000 in
set_option maxHeartbeats 1000000 in
/-- Struck of a Fault that bears a Mark that was told. -/
theorem struck_told {w : World} {p pe : Nat} {wh : ByteArray} {n : Int} {pan : Value} (h : w.heap[p]? = some (faultObj wh (markV pe) pan)) (hm : One w pe (.int .i64 n) 43) (hg : Handle w) :
    Calls Tryd.prog 14 #[faultV p] w fun e w' => e = .returned (.int .i64 n) ∧ Same (fun _ => False) w w' := by
  have hs1 := (Same.refl (fun _ => False) w).alloc (.cells #[.pointer none] 48)
  have hg1 := hg.alloc (.cells #[.pointer none] 48)
  have HF := Lib.hid (fa_as p w.heap.size hg1 (One.new w (.pointer none) 48))
  have HS1 := Lib.hid hs1; have HH := Lib.hid h; have HM := Lib.hid hm; have HG := Lib.hid hg
  clear hs1 hg1 h hg hm
  go_enter Tryd.func14, Tryd.ntmps14
  go_wp2_with fail
  refine HF.out.mono ?_
  rintro e w2 ⟨rfl, hs, ho⟩
  have hs3 := (HS1.out.trans hs (fun k hk he => by omega)).alloc (.cells #[.pointer none] 41)
  have ho2 := ho.alloc (.cells #[.pointer none] 41)
  have hc := ho2.cell
  have hc0 := ho.cell
  have hol := ho.lt
  obtain ⟨c0, c1, c2⟩ := fault_cells (hs3.obj HH.out id)
  have hg3 := HG.out.same hs3 id
  have HA := Lib.hid (mk_as_mark (pe := pe) hg3 (One.new w2 (.pointer none) 41))
  have HS3 := Lib.hid hs3; have HO2 := Lib.hid ho2
  have hw2 := (HS1.out.trans hs (fun k hk he => by omega)).size
  clear hs hs3 ho HF HS1 ho2 hg3
  go_wp2_with fail
  refine HA.out.mono ?_
  rintro e w4 ⟨rfl, hs4, ho4⟩
  have hs5 := HS3.out.trans hs4 (fun k hk h => by omega)
  have hcm := (hs5.one HM.out id).cell
  have hc4 := ho4.cell
  have HS5 := Lib.hid hs5
  clear hs4 ho4 hs5 HA HS3
  go_wp2_with fail
  go_ret
  exact ⟨rfl, HS5.out⟩

end Go.Proofs.YtcbapmkipcffgaaDoor
