/-
  What a Fault wraps; errors.As at a *api.Twice of a Fault: none. Conditions: none.
-/
import Derived.Test.YtcbapmkipcffgaaDoorRun
import Derived.Test.YtcbapmkipcffgaaDoorErrsTw
import Derived.Test.YtcbapmkipcffgaaDoorErrsFa
namespace Go.Proofs.YtcbapmkipcffgaaDoor
open Go.RowKit Go.Extern.Stop Go.Stop Go.Extern Go.Lib

abbrev errCb : Value := .iface 46 (.int .i64 50)

theorem fault_cells {w : World} {p : Nat} {wh : ByteArray} {err pan : Value} (h : w.heap[p]? = some (faultObj wh err pan)) :
    w.cell? ⟨p, 0, none⟩ = some (.string wh) ∧ w.cell? ⟨p, 1, none⟩ = some err ∧ w.cell? ⟨p, 2, none⟩ = some pan := by
  simp [World.cell?, h]

/-- A panic's value is no error. -/
def NoErr (v : Value) : Prop := ∀ w : World, (Instr.typeAssert v 20 25 true).run Tryd.prog w = .ok (.tuple #[.nilIface, .bool false]) w
/-- A panic's value is an error. -/
def IsErr (v : Value) : Prop := ∀ w : World, (Instr.typeAssert v 20 25 true).run Tryd.prog w = .ok (.tuple #[v, .bool true]) w

theorem unwrap_err {w : World} {p : Nat} {wh : ByteArray} {D : TypeId} {x pan : Value} (h : w.heap[p]? = some (faultObj wh (.iface D x) pan)) :
    Calls Tryd.prog 124 #[.pointer (some ⟨p, 0, none⟩)] w fun e w' => e = .returned (.slice (some ⟨w.heap.size, 0, none⟩) 2 2) ∧ w' = w.alloc (.cells #[errCb, .iface D x] 25) := by
  obtain ⟨c0, c1, c2⟩ := fault_cells h
  clear h
  go_enter Tryd.func124, Tryd.ntmps124
  go_wp2
  go_ret
  exact ⟨rfl, rfl⟩

theorem unwrap_pan {w : World} {p : Nat} {wh : ByteArray} {v : Value} (h : w.heap[p]? = some (faultObj wh .nilIface v)) (hn : NoErr v) :
    Calls Tryd.prog 124 #[.pointer (some ⟨p, 0, none⟩)] w fun e w' => e = .returned (.slice (some ⟨w.heap.size, 0, none⟩) 1 1) ∧ w' = w.alloc (.cells #[errCb] 25) := by
  obtain ⟨c0, c1, c2⟩ := fault_cells h
  unfold NoErr at hn
  clear h
  go_enter Tryd.func124, Tryd.ntmps124
  go_wp2
  go_ret
  exact ⟨rfl, rfl⟩

theorem unwrap_panerr {w : World} {p : Nat} {wh : ByteArray} {T : TypeId} {x : Value} (h : w.heap[p]? = some (faultObj wh .nilIface (.iface T x))) (hn : IsErr (.iface T x)) :
    Calls Tryd.prog 124 #[.pointer (some ⟨p, 0, none⟩)] w fun e w' => e = .returned (.slice (some ⟨w.heap.size, 0, none⟩) 2 2) ∧ w' = w.alloc (.cells #[errCb, .iface T x] 25) := by
  obtain ⟨c0, c1, c2⟩ := fault_cells h
  unfold IsErr at hn
  clear h
  go_enter Tryd.func124, Tryd.ntmps124
  go_wp2
  go_ret
  exact ⟨rfl, rfl⟩

theorem fault_noAs (v : Value) (w : World) : (Instr.typeAssert (.iface 48 v) 25 155 true).run Tryd.prog w = .ok (.tuple #[.nilIface, .bool false]) w := run_typeAssert_lacksB Tryd.underlying155 (by kernel_rfl) (by kernel_rfl) v 25 w
theorem fault_noUnwrap (v : Value) (w : World) : (Instr.typeAssert (.iface 48 v) 25 158 true).run Tryd.prog w = .ok (.tuple #[.nilIface, .bool false]) w := run_typeAssert_lacksB Tryd.underlying158 (by kernel_rfl) (by kernel_rfl) v 25 w
theorem fault_unwraps (v : Value) (w : World) : (Instr.typeAssert (.iface 48 v) 25 159 true).run Tryd.prog w = .ok (.tuple #[.iface 48 v, .bool true]) w := run_typeAssert_hasB Tryd.underlying159 (by kernel_rfl) v 25 w
theorem fault_mU (v : Value) (w : World) : (Go.method 303 48 v "Unwrap").run Tryd.prog w = .ok (124, v) w := by kernel_rfl

/-- Errors that are no Twice and wrap nothing. -/
def MissTw (v : Value) : Prop := ∀ (tgt : Value) (a : Nat) (w : World), Calls Tryd.prog 60 #[v, tgt, tw_val a, tw_typ] w fun e w' => ∃ b, e = .returned (.bool b) ∧ (b = false ∧ Same (fun _ => False) w w')

set_option maxHeartbeats 4000000 in
theorem tw_fault1 {w : World} {p : Nat} {wh : ByteArray} {v : Value} (h : w.heap[p]? = some (faultObj wh .nilIface v)) (hn : NoErr v) (tgt : Value) (a : Nat) :
    Calls Tryd.prog 60 #[.iface 48 (.pointer (some ⟨p, 0, none⟩)), tgt, tw_val a, tw_typ] w fun e w' => ∃ b, e = .returned (.bool b) ∧ (b = false ∧ Same (fun _ => False) w w') := by
  have x2 := @run_callFunc_extern Tryd.prog 61 _ ReflectliteType.typeOf Tryd.func61 (by kernel_rfl) (by kernel_rfl) (by kernel_rfl) (by kernel_rfl)
  have x3 := @run_callFunc_extern Tryd.prog 131 _ (ReflectliteType.relation "AssignableTo" ReflectliteType.assignableTo) Tryd.func131 (by kernel_rfl) (by kernel_rfl) (by kernel_rfl) (by kernel_rfl)
  have tO : ∀ (v : Value) (w : World), (ReflectliteType.typeOf #[.iface 48 v]).run Tryd.prog w = .ok (.iface 151 (.agg #[.pointer (some ⟨3, 48, none⟩)])) w := fun v w => by kernel_rfl
  have mA := rl_mA
  have a25 : ∀ w : World, (ReflectliteType.relation "AssignableTo" ReflectliteType.assignableTo #[.agg #[.pointer (some ⟨3, 48, none⟩)], .iface 151 (.agg #[.pointer (some ⟨3, 130, none⟩)])]).run Tryd.prog w = .ok (.bool false) w := fun w => by kernel_rfl
  have n1 := fault_noAs
  have n2 := fault_noUnwrap
  have n3 := fault_unwraps
  have mU := fault_mU
  have h1 := ((Same.refl (fun _ => False) w).alloc (.cells #[.pointer (some ⟨3, 131, none⟩), .pointer (some ⟨a, 0, none⟩), .int .u64 150] 119)).obj h id
  have hs := ((Same.refl (fun _ => False) w).alloc (.cells #[.pointer (some ⟨3, 131, none⟩), .pointer (some ⟨a, 0, none⟩), .int .u64 150] 119)).alloc (.cells #[errCb] 25)
  have hu := unwrap_pan h1 hn
  have HU := Lib.hid hu; have HS := Lib.hid hs
  clear hu hs h1 h hn
  go_enter Tryd.func60, Tryd.ntmps60
  go_wp2_with fail
  refine wp_loop_rounds 1 ?_
  rw [rounds_succ]
  go_wp2_with (go_at_call 124; refine HU.out.mono ?_; rintro e w' ⟨rfl, rfl⟩)
  refine wp_loop_rounds 2 ?_
  rw [rounds_succ]
  go_wp2_with fail
  refine (tw_miss_en (.int .i64 50) tgt a _).mono ?_
  rintro e w2 ⟨b, rfl, rfl, hs2⟩
  have HS2 := Lib.hid (HS.out.trans hs2 (fun _ _ h => h)); clear hs2
  go_wp2_with fail
  rw [rounds_succ]
  go_wp2_with fail
  go_ret
  exact ⟨false, rfl, rfl, HS2.out⟩

set_option maxHeartbeats 4000000 in
theorem tw_fault2 {w : World} {p : Nat} {wh : ByteArray} {D : TypeId} {x pan : Value} (h : w.heap[p]? = some (faultObj wh (.iface D x) pan)) (hm : MissTw (.iface D x)) (tgt : Value) (a : Nat) :
    Calls Tryd.prog 60 #[.iface 48 (.pointer (some ⟨p, 0, none⟩)), tgt, tw_val a, tw_typ] w fun e w' => ∃ b, e = .returned (.bool b) ∧ (b = false ∧ Same (fun _ => False) w w') := by
  have x2 := @run_callFunc_extern Tryd.prog 61 _ ReflectliteType.typeOf Tryd.func61 (by kernel_rfl) (by kernel_rfl) (by kernel_rfl) (by kernel_rfl)
  have x3 := @run_callFunc_extern Tryd.prog 131 _ (ReflectliteType.relation "AssignableTo" ReflectliteType.assignableTo) Tryd.func131 (by kernel_rfl) (by kernel_rfl) (by kernel_rfl) (by kernel_rfl)
  have tO : ∀ (v : Value) (w : World), (ReflectliteType.typeOf #[.iface 48 v]).run Tryd.prog w = .ok (.iface 151 (.agg #[.pointer (some ⟨3, 48, none⟩)])) w := fun v w => by kernel_rfl
  have mA := rl_mA
  have a25 : ∀ w : World, (ReflectliteType.relation "AssignableTo" ReflectliteType.assignableTo #[.agg #[.pointer (some ⟨3, 48, none⟩)], .iface 151 (.agg #[.pointer (some ⟨3, 130, none⟩)])]).run Tryd.prog w = .ok (.bool false) w := fun w => by kernel_rfl
  have n1 := fault_noAs
  have n2 := fault_noUnwrap
  have n3 := fault_unwraps
  have mU := fault_mU
  have h1 := ((Same.refl (fun _ => False) w).alloc (.cells #[.pointer (some ⟨3, 131, none⟩), .pointer (some ⟨a, 0, none⟩), .int .u64 150] 119)).obj h id
  have hs := ((Same.refl (fun _ => False) w).alloc (.cells #[.pointer (some ⟨3, 131, none⟩), .pointer (some ⟨a, 0, none⟩), .int .u64 150] 119)).alloc (.cells #[errCb, .iface D x] 25)
  have hu := unwrap_err h1
  have HU := Lib.hid hu; have HM := Lib.hid hm; have HS := Lib.hid hs
  clear hu hs h1 h hm
  go_enter Tryd.func60, Tryd.ntmps60
  go_wp2_with fail
  refine wp_loop_rounds 1 ?_
  rw [rounds_succ]
  go_wp2_with (go_at_call 124; refine HU.out.mono ?_; rintro e w' ⟨rfl, rfl⟩)
  refine wp_loop_rounds 3 ?_
  rw [rounds_succ]
  go_wp2_with fail
  refine (tw_miss_en (.int .i64 50) tgt a _).mono ?_
  rintro e w2 ⟨b, rfl, rfl, hs2⟩
  have hb := (heap_alloc_new (w.alloc (.cells #[.pointer (some ⟨3, 131, none⟩), .pointer (some ⟨a, 0, none⟩), .int .u64 150] 119)) (.cells #[errCb, .iface D x] 25))
  rw [alloc_size] at hb
  have hb2 := hs2.obj hb id
  have k0 : w2.cell? ⟨w.heap.size + 1, 1, none⟩ = some (.iface D x) := by simp [World.cell?, hb2]
  have hbl := lt_of_block hb2
  have hbx := (((Same.refl (fun _ => False) w).alloc (.cells #[.pointer (some ⟨3, 131, none⟩), .pointer (some ⟨a, 0, none⟩), .int .u64 150] 119)))
  have hv0 : (w.alloc (.cells #[.pointer (some ⟨3, 131, none⟩), .pointer (some ⟨a, 0, none⟩), .int .u64 150] 119)).heap[w.heap.size]? = some (.cells #[.pointer (some ⟨3, 131, none⟩), .pointer (some ⟨a, 0, none⟩), .int .u64 150] 119) := heap_alloc_new _ _
  have hv1 := hs2.obj (((Same.refl (fun _ => False) _).alloc (.cells #[errCb, .iface D x] 25)).obj hv0 id) id
  have v0 : w2.cell? ⟨w.heap.size, 0, none⟩ = some (.pointer (some ⟨3, 131, none⟩)) := by simp [World.cell?, hv1]
  have v1 : w2.cell? ⟨w.heap.size, 1, none⟩ = some (.pointer (some ⟨a, 0, none⟩)) := by simp [World.cell?, hv1]
  have v2 : w2.cell? ⟨w.heap.size, 2, none⟩ = some (.int .u64 150) := by simp [World.cell?, hv1]
  have HS2 := Lib.hid (HS.out.trans hs2 (fun _ _ h => h)); clear hs2 hb hb2 hbx hv0 hv1
  go_wp2_with fail
  rw [rounds_succ]
  go_wp2_with fail
  refine (HM.out tgt a _).mono ?_
  rintro e w3 ⟨b, rfl, rfl, hs3⟩
  have HS3 := Lib.hid (HS2.out.trans hs3 (fun _ _ h => h)); clear hs3
  go_wp2_with fail
  rw [rounds_succ]
  go_wp2_with fail
  go_ret
  exact ⟨false, rfl, rfl, HS3.out⟩

set_option maxHeartbeats 4000000 in
theorem tw_fault3 {w : World} {p : Nat} {wh : ByteArray} {T : TypeId} {x : Value} (h : w.heap[p]? = some (faultObj wh .nilIface (.iface T x))) (hn : IsErr (.iface T x)) (hm : MissTw (.iface T x)) (tgt : Value) (a : Nat) :
    Calls Tryd.prog 60 #[.iface 48 (.pointer (some ⟨p, 0, none⟩)), tgt, tw_val a, tw_typ] w fun e w' => ∃ b, e = .returned (.bool b) ∧ (b = false ∧ Same (fun _ => False) w w') := by
  have x2 := @run_callFunc_extern Tryd.prog 61 _ ReflectliteType.typeOf Tryd.func61 (by kernel_rfl) (by kernel_rfl) (by kernel_rfl) (by kernel_rfl)
  have x3 := @run_callFunc_extern Tryd.prog 131 _ (ReflectliteType.relation "AssignableTo" ReflectliteType.assignableTo) Tryd.func131 (by kernel_rfl) (by kernel_rfl) (by kernel_rfl) (by kernel_rfl)
  have tO : ∀ (v : Value) (w : World), (ReflectliteType.typeOf #[.iface 48 v]).run Tryd.prog w = .ok (.iface 151 (.agg #[.pointer (some ⟨3, 48, none⟩)])) w := fun v w => by kernel_rfl
  have mA := rl_mA
  have a25 : ∀ w : World, (ReflectliteType.relation "AssignableTo" ReflectliteType.assignableTo #[.agg #[.pointer (some ⟨3, 48, none⟩)], .iface 151 (.agg #[.pointer (some ⟨3, 130, none⟩)])]).run Tryd.prog w = .ok (.bool false) w := fun w => by kernel_rfl
  have n1 := fault_noAs
  have n2 := fault_noUnwrap
  have n3 := fault_unwraps
  have mU := fault_mU
  have h1 := ((Same.refl (fun _ => False) w).alloc (.cells #[.pointer (some ⟨3, 131, none⟩), .pointer (some ⟨a, 0, none⟩), .int .u64 150] 119)).obj h id
  have hs := ((Same.refl (fun _ => False) w).alloc (.cells #[.pointer (some ⟨3, 131, none⟩), .pointer (some ⟨a, 0, none⟩), .int .u64 150] 119)).alloc (.cells #[errCb, .iface T x] 25)
  have hu := unwrap_panerr h1 hn
  have HU := Lib.hid hu; have HM := Lib.hid hm; have HS := Lib.hid hs
  clear hu hs h1 h hm hn
  go_enter Tryd.func60, Tryd.ntmps60
  go_wp2_with fail
  refine wp_loop_rounds 1 ?_
  rw [rounds_succ]
  go_wp2_with (go_at_call 124; refine HU.out.mono ?_; rintro e w' ⟨rfl, rfl⟩)
  refine wp_loop_rounds 3 ?_
  rw [rounds_succ]
  go_wp2_with fail
  refine (tw_miss_en (.int .i64 50) tgt a _).mono ?_
  rintro e w2 ⟨b, rfl, rfl, hs2⟩
  have hb := (heap_alloc_new (w.alloc (.cells #[.pointer (some ⟨3, 131, none⟩), .pointer (some ⟨a, 0, none⟩), .int .u64 150] 119)) (.cells #[errCb, .iface T x] 25))
  rw [alloc_size] at hb
  have hb2 := hs2.obj hb id
  have k0 : w2.cell? ⟨w.heap.size + 1, 1, none⟩ = some (.iface T x) := by simp [World.cell?, hb2]
  have hbl := lt_of_block hb2
  have hbx := (((Same.refl (fun _ => False) w).alloc (.cells #[.pointer (some ⟨3, 131, none⟩), .pointer (some ⟨a, 0, none⟩), .int .u64 150] 119)))
  have hv0 : (w.alloc (.cells #[.pointer (some ⟨3, 131, none⟩), .pointer (some ⟨a, 0, none⟩), .int .u64 150] 119)).heap[w.heap.size]? = some (.cells #[.pointer (some ⟨3, 131, none⟩), .pointer (some ⟨a, 0, none⟩), .int .u64 150] 119) := heap_alloc_new _ _
  have hv1 := hs2.obj (((Same.refl (fun _ => False) _).alloc (.cells #[errCb, .iface T x] 25)).obj hv0 id) id
  have v0 : w2.cell? ⟨w.heap.size, 0, none⟩ = some (.pointer (some ⟨3, 131, none⟩)) := by simp [World.cell?, hv1]
  have v1 : w2.cell? ⟨w.heap.size, 1, none⟩ = some (.pointer (some ⟨a, 0, none⟩)) := by simp [World.cell?, hv1]
  have v2 : w2.cell? ⟨w.heap.size, 2, none⟩ = some (.int .u64 150) := by simp [World.cell?, hv1]
  have HS2 := Lib.hid (HS.out.trans hs2 (fun _ _ h => h)); clear hs2 hb hb2 hbx hv0 hv1
  go_wp2_with fail
  rw [rounds_succ]
  go_wp2_with fail
  refine (HM.out tgt a _).mono ?_
  rintro e w3 ⟨b, rfl, rfl, hs3⟩
  have HS3 := Lib.hid (HS2.out.trans hs3 (fun _ _ h => h)); clear hs3
  go_wp2_with fail
  rw [rounds_succ]
  go_wp2_with fail
  go_ret
  exact ⟨false, rfl, rfl, HS3.out⟩

end Go.Proofs.YtcbapmkipcffgaaDoor
