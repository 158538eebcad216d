/-
  errors.As at a variable of type *api.Twice: up to errors.as; hit; missed. Conditions: none. (Printed by wip/tools/errs_gen.py, after the worked text Toyas.)
-/
import Derived.Test.YtgfmemggfbgjeaaGreatDoorM29
namespace Go.Proofs.YtgfmemggfbgjeaaGreatDoor
open Go.RowKit Go.Extern.Stop Go.Stop Go.Extern Go.Lib

/-! ### target tw -/
theorem tw_valueOf (t : Addr) (w : World) : (ReflectliteValue.unpack (.iface 96 (.pointer (some t)))).run Tryz.prog w
    = .ok (.agg #[.pointer (some ⟨2, 96, none⟩), .pointer (some ⟨w.heap.size, 0, none⟩), .int .u64 150]) (w.alloc (.cells #[.pointer (some t)] 96)) := by kernel_rfl
theorem tw_type (a : Addr) (w : World) : (ReflectliteValue.methodAny (ReflectliteValue.valueError "reflectlite.Value.Type" 0) (fun t _ _ _ => ReflectliteType.toType t) #[.agg #[.pointer (some ⟨2, 96, none⟩), .pointer (some a), .int .u64 150]]).run Tryz.prog w
    = .ok (.iface 158 (.agg #[.pointer (some ⟨2, 96, none⟩)])) w := by kernel_rfl
theorem tw_kindTT (w : World) : ((ReflectliteType.abiMethod fun t => (fun a : Nat => Value.int IntKind.u8 (a : Int)) <$> Rtype.kind t) #[.pointer (some ⟨2, 96, none⟩)]).run Tryz.prog w = .ok (.int .u8 22) w := by kernel_rfl
theorem tw_kindT (w : World) : ((ReflectliteType.abiMethod fun t => (fun a : Nat => Value.int IntKind.u8 (a : Int)) <$> Rtype.kind t) #[.pointer (some ⟨2, 92, none⟩)]).run Tryz.prog w = .ok (.int .u8 22) w := by kernel_rfl
theorem tw_parts (a : Addr) (w : World) : (ReflectliteValue.parts (.agg #[.pointer (some ⟨2, 96, none⟩), .pointer (some a), .int .u64 150])).run Tryz.prog w = .ok (some (96, a, 150)) w := by kernel_rfl
theorem tw_isNil (a p : Addr) (W : World) (ha : W.cell? a = some (.pointer (some p))) :
    (ReflectliteValue.method (ReflectliteValue.valueError "reflectlite.Value.IsNil" 0) ReflectliteValue.isNil #[.agg #[.pointer (some ⟨2, 96, none⟩), .pointer (some a), .int .u64 150]]).run Tryz.prog W = .ok (.bool false) W := by
  rw [rlm]
  simp only [Sem.run_bind, tw_parts, Result.andThen]
  simp [ReflectliteValue.isNil, loadVar, isAgg, underlying, Tryz.underlying96, ha, Result.andThen]
theorem tw_elem (w : World) : (ReflectliteType.method ReflectliteType.elem #[.agg #[.pointer (some ⟨2, 96, none⟩)]]).run Tryz.prog w = .ok (.iface 158 (.agg #[.pointer (some ⟨2, 92, none⟩)])) w := by kernel_rfl
theorem tw_implements (w : World) : (ReflectliteType.relation "Implements" ReflectliteType.implements_ #[.agg #[.pointer (some ⟨2, 92, none⟩)], .iface 158 (.agg #[.pointer (some ⟨2, 41, none⟩)])]).run Tryz.prog w = .ok (.bool true) w := by kernel_rfl
theorem tw_typeOf (v : Value) (w : World) : (ReflectliteType.typeOf #[.iface 92 v]).run Tryz.prog w = .ok (.iface 158 (.agg #[.pointer (some ⟨2, 92, none⟩)])) w := by kernel_rfl
theorem tw_valueOfT (pe : Addr) (w : World) : (ReflectliteValue.unpack (.iface 92 (.pointer (some pe)))).run Tryz.prog w
    = .ok (.agg #[.pointer (some ⟨2, 92, none⟩), .pointer (some ⟨w.heap.size, 0, none⟩), .int .u64 150]) (w.alloc (.cells #[.pointer (some pe)] 92)) := by kernel_rfl
theorem tw_elemOf (w : World) : (Rtype.elem? 96).run Tryz.prog w = .ok (some 92) w := by kernel_rfl
theorem tw_mk (p : Addr) (w : World) : (ReflectliteValue.mk 92 p ReflectliteValue.flagAddr).run Tryz.prog w = .ok (.agg #[.pointer (some ⟨2, 92, none⟩), .pointer (some p), .int .u64 406]) w := by kernel_rfl
theorem tw_elemV (a p : Addr) (W : World) (ha : W.cell? a = some (.pointer (some p))) :
    (ReflectliteValue.method (ReflectliteValue.valueError "reflectlite.Value.Elem" 0) ReflectliteValue.elem #[.agg #[.pointer (some ⟨2, 96, none⟩), .pointer (some a), .int .u64 150]]).run Tryz.prog W
      = .ok (.agg #[.pointer (some ⟨2, 92, none⟩), .pointer (some p), .int .u64 406]) W := by
  rw [rlm]
  simp only [Sem.run_bind, tw_parts, Result.andThen]
  simp [ReflectliteValue.elem, loadVar, isAgg, underlying, Tryz.underlying96, ha, Result.andThen, tw_elemOf, tw_mk]
theorem tw_parts_a (a : Addr) (w : World) : (ReflectliteValue.parts (.agg #[.pointer (some ⟨2, 92, none⟩), .pointer (some a), .int .u64 406])).run Tryz.prog w = .ok (some (92, a, 406)) w := by kernel_rfl
theorem tw_parts_b (a : Addr) (w : World) : (ReflectliteValue.parts (.agg #[.pointer (some ⟨2, 92, none⟩), .pointer (some a), .int .u64 150])).run Tryz.prog w = .ok (some (92, a, 150)) w := by kernel_rfl
theorem tw_direct (w : World) : (Rtype.directlyAssignable 92 92).run Tryz.prog w = .ok true w := by kernel_rfl
theorem tw_set (ta b : Addr) (pe : Addr) (old : Value) (W : World) (hb : W.cell? b = some (.pointer (some pe))) (ht : W.cell? ta = some old) (hf : W.frozen? ta = false) :
    (ReflectliteValue.set #[.agg #[.pointer (some ⟨2, 92, none⟩), .pointer (some ta), .int .u64 406], .agg #[.pointer (some ⟨2, 92, none⟩), .pointer (some b), .int .u64 150]]).run Tryz.prog W
      = .ok (.tuple #[]) (W.setCell ta (.pointer (some pe))) := by
  rw [rls]
  simp only [Sem.run_bind, tw_parts_a, tw_parts_b, Result.andThen]
  simp [ReflectliteValue.flagAddr, loadVar, isAgg, underlying, Tryz.underlying92, hb, Result.andThen, tw_direct, storeVar, Value.cells, storeCells, Addr.add]
  rw [run_store Tryz.prog W ta _ _ (by rfl)]
  simp [ht, hf]

/-- The Value of the target, whose own copy lies at a. -/
abbrev tw_val (a : Nat) : Value := .agg #[.pointer (some ⟨2, 96, none⟩), .pointer (some ⟨a, 0, none⟩), .int .u64 150]
abbrev tw_typ : Value := .iface 158 (.agg #[.pointer (some ⟨2, 92, none⟩)])

set_option maxHeartbeats 4000000 in
/-- errors.As up to errors.as. -/
theorem tw_head (D : TypeId) (v : Value) (t : Addr) (w : World) (hg : Handle w) {Q : Bool → World → Prop}
    (h : Calls Tryz.prog 64 #[.iface D v, .iface 96 (.pointer (some t)), tw_val w.heap.size, tw_typ] ((w.alloc (.cells #[.pointer (some t)] 96)).alloc (.cells #[.pointer (some ⟨2, 96, none⟩), .pointer (some ⟨w.heap.size, 0, none⟩), .int .u64 150] 125))
      fun e w' => ∃ b, e = .returned (.bool b) ∧ Q b w') :
    Calls Tryz.prog 37 #[.iface D v, .iface 96 (.pointer (some t))] w fun e w' => ∃ b, e = .returned (.bool b) ∧ Q b w' := by
  have x1 := @run_callFunc_extern Tryz.prog 61 _ (fun args => ReflectliteValue.unpack (args.getD 0 (.tuple #[]))) Tryz.func61 (by kernel_rfl) (by kernel_rfl) (by kernel_rfl) (by kernel_rfl)
  have x2 := @run_callFunc_extern Tryz.prog 62 _ (ReflectliteValue.methodAny (ReflectliteValue.valueError "reflectlite.Value.Type" 0) (fun t _ _ _ => ReflectliteType.toType t)) Tryz.func62 (by kernel_rfl) (by kernel_rfl) (by kernel_rfl) (by kernel_rfl)
  have x3 := @run_callFunc_extern Tryz.prog 63 _ (ReflectliteValue.method (ReflectliteValue.valueError "reflectlite.Value.IsNil" 0) ReflectliteValue.isNil) Tryz.func63 (by kernel_rfl) (by kernel_rfl) (by kernel_rfl) (by kernel_rfl)
  have x4 := @run_callFunc_extern Tryz.prog 128 _ (ReflectliteType.abiMethod fun t => do pure (.int .u8 (← Rtype.kind t))) Tryz.func128 (by kernel_rfl) (by kernel_rfl) (by kernel_rfl) (by kernel_rfl)
  have x5 := @run_callFunc_extern Tryz.prog 145 _ (ReflectliteType.method ReflectliteType.elem) Tryz.func145 (by kernel_rfl) (by kernel_rfl) (by kernel_rfl) (by kernel_rfl)
  have x6 := @run_callFunc_extern Tryz.prog 146 _ (ReflectliteType.relation "Implements" ReflectliteType.implements_) Tryz.func146 (by kernel_rfl) (by kernel_rfl) (by kernel_rfl) (by kernel_rfl)
  have f6 := tw_valueOf
  have f7 := tw_type
  have mK := rl_mK
  have mE := rl_mE
  have mI := rl_mI
  have k27 := tw_kindTT
  have k25 := tw_kindT
  have e27 := tw_elem
  have i25 := tw_implements
  have n8 := tw_isNil ⟨w.heap.size, 0, none⟩ t ((w.alloc (.cells #[.pointer (some t)] 96)).alloc (.cells #[.pointer (some ⟨2, 96, none⟩), .pointer (some ⟨w.heap.size, 0, none⟩), .int .u64 150] 125)) (by simp)
  have hg2 := (hg.alloc (.cells #[.pointer (some t)] 96)).alloc (.cells #[.pointer (some ⟨2, 96, none⟩), .pointer (some ⟨w.heap.size, 0, none⟩), .int .u64 150] 125)
  unfold Handle at hg hg2
  have HC := Lib.hid h; clear h
  go_enter Tryz.func37, Tryz.ntmps37
  go_wp2_with fail
  refine HC.out.mono ?_
  rintro e w' ⟨b, rfl, hq⟩
  have HQ := Lib.hid hq; clear hq
  go_wp2_with fail
  go_ret
  exact ⟨b, rfl, HQ.out⟩

set_option maxHeartbeats 4000000 in
theorem tw_miss_en (v : Value) (tgt : Value) (a : Nat) (w : World) :
    Calls Tryz.prog 64 #[.iface 65 v, tgt, tw_val a, tw_typ] w fun e w' => ∃ b, e = .returned (.bool b) ∧ (b = false ∧ Same (fun _ => False) w w') := by
  have x2 := @run_callFunc_extern Tryz.prog 83 _ ReflectliteType.typeOf Tryz.func83 (by kernel_rfl) (by kernel_rfl) (by kernel_rfl) (by kernel_rfl)
  have x3 := @run_callFunc_extern Tryz.prog 143 _ (ReflectliteType.relation "AssignableTo" ReflectliteType.assignableTo) Tryz.func143 (by kernel_rfl) (by kernel_rfl) (by kernel_rfl) (by kernel_rfl)
  have tO : ∀ (v : Value) (w : World), (ReflectliteType.typeOf #[.iface 65 v]).run Tryz.prog w = .ok (.iface 158 (.agg #[.pointer (some ⟨2, 65, none⟩)])) w := fun v w => by kernel_rfl
  have mA := rl_mA
  have a25 : ∀ w : World, (ReflectliteType.relation "AssignableTo" ReflectliteType.assignableTo #[.agg #[.pointer (some ⟨2, 65, none⟩)], .iface 158 (.agg #[.pointer (some ⟨2, 92, none⟩)])]).run Tryz.prog w = .ok (.bool false) w := fun w => by kernel_rfl
  have n1 := en_noAs
  have n2 := en_noUnwrap
  have n3 := en_noUnwraps
  go_enter Tryz.func64, Tryz.ntmps64
  go_wp2
  refine wp_loop_rounds 1 ?_
  rw [rounds_succ]
  go_wp2
  go_ret
  exact ⟨false, rfl, rfl, (Same.refl _ w).alloc _⟩

set_option maxHeartbeats 4000000 in
theorem tw_miss_mk (v : Value) (tgt : Value) (a : Nat) (w : World) :
    Calls Tryz.prog 64 #[.iface 145 v, tgt, tw_val a, tw_typ] w fun e w' => ∃ b, e = .returned (.bool b) ∧ (b = false ∧ Same (fun _ => False) w w') := by
  have x2 := @run_callFunc_extern Tryz.prog 83 _ ReflectliteType.typeOf Tryz.func83 (by kernel_rfl) (by kernel_rfl) (by kernel_rfl) (by kernel_rfl)
  have x3 := @run_callFunc_extern Tryz.prog 143 _ (ReflectliteType.relation "AssignableTo" ReflectliteType.assignableTo) Tryz.func143 (by kernel_rfl) (by kernel_rfl) (by kernel_rfl) (by kernel_rfl)
  have tO : ∀ (v : Value) (w : World), (ReflectliteType.typeOf #[.iface 145 v]).run Tryz.prog w = .ok (.iface 158 (.agg #[.pointer (some ⟨2, 145, none⟩)])) w := fun v w => by kernel_rfl
  have mA := rl_mA
  have a25 : ∀ w : World, (ReflectliteType.relation "AssignableTo" ReflectliteType.assignableTo #[.agg #[.pointer (some ⟨2, 145, none⟩)], .iface 158 (.agg #[.pointer (some ⟨2, 92, none⟩)])]).run Tryz.prog w = .ok (.bool false) w := fun w => by kernel_rfl
  have n1 := mk_noAs
  have n2 := mk_noUnwrap
  have n3 := mk_noUnwraps
  go_enter Tryz.func64, Tryz.ntmps64
  go_wp2
  refine wp_loop_rounds 1 ?_
  rw [rounds_succ]
  go_wp2
  go_ret
  exact ⟨false, rfl, rfl, (Same.refl _ w).alloc _⟩

end Go.Proofs.YtgfmemggfbgjeaaGreatDoor
