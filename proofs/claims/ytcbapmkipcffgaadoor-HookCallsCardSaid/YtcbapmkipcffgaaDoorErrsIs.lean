/-
  errors.Is at an Errno: of an Errno; of a Fault, through what it wraps. Conditions: none. (After the worked text Sentry.)
-/
import Derived.Test.YtcbapmkipcffgaaDoorFault
namespace Go.Proofs.YtcbapmkipcffgaaDoor
open Go.RowKit Go.Extern.Stop Go.Stop Go.Extern Go.Lib

abbrev errNo (n : Int) : Value := .iface 46 (.int .i64 n)

theorem en_noIs (v : Value) (w : World) : (Instr.typeAssert (.iface 46 v) 25 162 true).run Tryd.prog w = .ok (.tuple #[.nilIface, .bool false]) w := run_typeAssert_lacksB Tryd.underlying162 (by kernel_rfl) (by kernel_rfl) v 25 w
theorem fault_noIs (v : Value) (w : World) : (Instr.typeAssert (.iface 48 v) 25 162 true).run Tryd.prog w = .ok (.tuple #[.nilIface, .bool false]) w := run_typeAssert_lacksB Tryd.underlying162 (by kernel_rfl) (by kernel_rfl) v 25 w
theorem rl_mC (v : Value) (w : World) : (Go.method 303 151 v "Comparable").run Tryd.prog w = .ok (132, v) w := by kernel_rfl
theorem en_comparable (w : World) : ((ReflectliteType.method fun t => do Rtype.noPackHeld "Comparable" t; (fun a => Value.bool a.comparable) <$> typeInfo t) #[.agg #[.pointer (some ⟨3, 46, none⟩)]]).run Tryd.prog w = .ok (.bool true) w := by kernel_rfl
theorem en_eql_same (n : Int) (w : World) : (binOp BinOp.eql 25 (errNo n) (errNo n)).run Tryd.prog w = .ok (.bool (n == n)) w := by kernel_rfl
theorem en_eql (n m : Int) (w : World) : (binOp BinOp.eql 25 (errNo n) (errNo m)).run Tryd.prog w = .ok (.bool (n == m)) w := by kernel_rfl
theorem fault_eql (v : Value) (m : Int) (w : World) : (binOp BinOp.eql 25 (.iface 48 v) (errNo m)).run Tryd.prog w = .ok (.bool false) w := run_eql_iface_types _ _ _ _ Tryd.underlying25 (by decide) w

set_option maxHeartbeats 1000000 in
theorem is_en_yes (n : Int) (w : World) : Calls Tryd.prog 62 #[errNo n, errNo n, .bool true] w fun e w' => e = .returned (.bool true) ∧ w = w' := by
  have h1 : ∀ w, (binOp BinOp.eql 25 (errNo n) (errNo n)).run Tryd.prog w = .ok (.bool true) w := fun w => by rw [en_eql]; simp
  go_enter Tryd.func62, Tryd.ntmps62
  go_wp2
  refine wp_loop_rounds 1 ?_
  rw [rounds_succ]
  go_wp2
  go_ret
  exact ⟨rfl, rfl⟩

set_option maxHeartbeats 1000000 in
theorem is_en_no (n m : Int) (hne : n ≠ m) (w : World) : Calls Tryd.prog 62 #[errNo n, errNo m, .bool true] w fun e w' => e = .returned (.bool false) ∧ w = w' := by
  have h1 : ∀ w, (binOp BinOp.eql 25 (errNo n) (errNo m)).run Tryd.prog w = .ok (.bool false) w := fun w => by rw [en_eql]; simp [hne]
  have n1 := en_noIs
  have n2 := en_noUnwrap
  have n3 := en_noUnwraps
  go_enter Tryd.func62, Tryd.ntmps62
  go_wp2
  refine wp_loop_rounds 1 ?_
  rw [rounds_succ]
  go_wp2
  go_ret
  exact ⟨rfl, rfl⟩

/-- What a Fault's Unwrap tells. -/
def Unwraps (w : World) (p : Nat) (l : List Value) : Prop :=
  Calls Tryd.prog 124 #[.pointer (some ⟨p, 0, none⟩)] w fun e w' => e = .returned (.slice (some ⟨w.heap.size, 0, none⟩) l.length l.length) ∧ w' = w.alloc (.cells l.toArray 25)

set_option maxHeartbeats 1000000 in
theorem is_fault_cb {w : World} {p : Nat} {l : List Value} (hu : Unwraps w p (errCb :: l)) :
    Calls Tryd.prog 62 #[.iface 48 (.pointer (some ⟨p, 0, none⟩)), errCb, .bool true] w fun e w' => e = .returned (.bool true) ∧ Same (fun _ => False) w w' := by
  have h1 := fault_eql
  have n1 := fault_noIs
  have n2 := fault_noUnwrap
  have n3 := fault_unwraps
  have mU := fault_mU
  have hs := (Same.refl (fun _ => False) w).alloc (.cells (errCb :: l).toArray 25)
  have hb := heap_alloc_new w (.cells (errCb :: l).toArray 25)
  have c0 : (w.alloc (.cells (errCb :: l).toArray 25)).cell? ⟨w.heap.size, 0, none⟩ = some errCb := by
    unfold World.cell?
    simp only [hb]
    rfl
  have hlen : (0 : Int) < ((errCb :: l).length : Int) := by simp
  obtain ⟨n, hn⟩ : ∃ n, n = (errCb :: l).length := ⟨_, rfl⟩
  unfold Unwraps at hu
  rw [← hn] at hu hlen
  obtain ⟨W2, hW2⟩ : ∃ W2, W2 = w.alloc (.cells (errCb :: l).toArray 25) := ⟨_, rfl⟩
  rw [← hW2] at hu hs c0
  have HU := Lib.hid hu; have HS := Lib.hid hs; have HW2 := Lib.hid hW2; have HN := Lib.hid hn
  clear hu hs hb hW2 hn
  go_enter Tryd.func62, Tryd.ntmps62
  go_wp2_with fail
  refine wp_loop_rounds 1 ?_
  rw [rounds_succ]
  go_wp2_with (go_at_call 124; refine HU.out.mono ?_; rintro e w' ⟨rfl, rfl⟩)
  refine wp_loop_rounds 1 ?_
  rw [rounds_succ]
  go_wp2_with fail
  refine (is_en_yes 50 _).mono ?_
  rintro e w' ⟨rfl, rfl⟩
  go_wp2_with fail
  go_ret
  exact ⟨rfl, HS.out⟩

set_option maxHeartbeats 1000000 in
theorem is_fault_second {w : World} {p : Nat} {m : Int} (hm : (50 : Int) ≠ m) (hu : Unwraps w p [errCb, errNo m]) :
    Calls Tryd.prog 62 #[.iface 48 (.pointer (some ⟨p, 0, none⟩)), errNo m, .bool true] w fun e w' => e = .returned (.bool true) ∧ Same (fun _ => False) w w' := by
  have h1 := fault_eql
  have n1 := fault_noIs
  have n2 := fault_noUnwrap
  have n3 := fault_unwraps
  have mU := fault_mU
  have hs := (Same.refl (fun _ => False) w).alloc (.cells #[errCb, errNo m] 25)
  have HU := Lib.hid hu; have HS := Lib.hid hs
  clear hu hs
  go_enter Tryd.func62, Tryd.ntmps62
  go_wp2_with fail
  refine wp_loop_rounds 1 ?_
  rw [rounds_succ]
  go_wp2_with (go_at_call 124; refine HU.out.mono ?_; rintro e w' ⟨rfl, rfl⟩)
  refine wp_loop_rounds 2 ?_
  rw [rounds_succ]
  go_wp2_with fail
  refine (is_en_no 50 m hm _).mono ?_
  rintro e w' ⟨rfl, rfl⟩
  go_wp2_with fail
  rw [rounds_succ]
  go_wp2_with fail
  refine (is_en_yes m _).mono ?_
  rintro e w' ⟨rfl, rfl⟩
  go_wp2_with fail
  go_ret
  exact ⟨rfl, HS.out⟩

set_option maxRecDepth 100000 in
set_option maxHeartbeats 1000000 in
/-- errors.Is at an Errno, up to errors.is. -/
theorem is_head (D : TypeId) (v : Value) (m : Int) (w : World) {R : World → Prop} {b : Bool}
    (h : Calls Tryd.prog 62 #[.iface D v, errNo m, .bool true] w fun e w' => e = .returned (.bool b) ∧ R w') :
    Calls Tryd.prog 24 #[.iface D v, errNo m] w fun e w' => e = .returned (.bool b) ∧ R w' := by
  have x1 := @run_callFunc_extern Tryd.prog 61 _ ReflectliteType.typeOf Tryd.func61 (by kernel_rfl) (by kernel_rfl) (by kernel_rfl) (by kernel_rfl)
  have x2 := @run_callFunc_extern Tryd.prog 132 _ (ReflectliteType.method fun t => do Rtype.noPackHeld "Comparable" t; pure (.bool (← typeInfo t).comparable)) Tryd.func132 (by kernel_rfl) (by kernel_rfl) (by kernel_rfl) (by kernel_rfl)
  have tO : ∀ (v : Value) (w : World), (ReflectliteType.typeOf #[.iface 46 v]).run Tryd.prog w = .ok (.iface 151 (.agg #[.pointer (some ⟨3, 46, none⟩)])) w := fun v w => by kernel_rfl
  have cT := en_comparable
  have mC := rl_mC
  have H := Lib.hid h; clear h
  go_enter Tryd.func24, Tryd.ntmps24
  go_wp2_with fail
  refine H.out.mono ?_
  rintro e w' ⟨rfl, hr⟩
  have HR := Lib.hid hr; clear hr
  go_wp2_with fail
  go_ret
  exact ⟨rfl, HR.out⟩

end Go.Proofs.YtcbapmkipcffgaaDoor
