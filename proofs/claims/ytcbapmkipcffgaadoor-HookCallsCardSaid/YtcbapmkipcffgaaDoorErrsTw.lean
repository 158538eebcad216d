/-
  errors.As at a variable of type *api.Twice: up to errors.as; hit; missed. Conditions: none. (Printed by wip/tools/errs_gen.py, after the worked text Toyas.)
-/
import Derived.Test.YtcbapmkipcffgaaDoorErrs
namespace Go.Proofs.YtcbapmkipcffgaaDoor
open Go.RowKit Go.Extern.Stop Go.Stop Go.Extern Go.Lib

/-! ### target tw -/
theorem tw_valueOf (t : Addr) (w : World) : (ReflectliteValue.unpack (.iface 131 (.pointer (some t)))).run Tryd.prog w
    = .ok (.agg #[.pointer (some ⟨3, 131, none⟩), .pointer (some ⟨w.heap.size, 0, none⟩), .int .u64 150]) (w.alloc (.cells #[.pointer (some t)] 131)) := by kernel_rfl
theorem tw_type (a : Addr) (w : World) : (ReflectliteValue.methodAny (ReflectliteValue.valueError "reflectlite.Value.Type" 0) (fun t _ _ _ => ReflectliteType.toType t) #[.agg #[.pointer (some ⟨3, 131, none⟩), .pointer (some a), .int .u64 150]]).run Tryd.prog w
    = .ok (.iface 151 (.agg #[.pointer (some ⟨3, 131, none⟩)])) w := by kernel_rfl
theorem tw_kindTT (w : World) : ((ReflectliteType.abiMethod fun t => (fun a : Nat => Value.int IntKind.u8 (a : Int)) <$> Rtype.kind t) #[.pointer (some ⟨3, 131, none⟩)]).run Tryd.prog w = .ok (.int .u8 22) w := by kernel_rfl
theorem tw_kindT (w : World) : ((ReflectliteType.abiMethod fun t => (fun a : Nat => Value.int IntKind.u8 (a : Int)) <$> Rtype.kind t) #[.pointer (some ⟨3, 130, none⟩)]).run Tryd.prog w = .ok (.int .u8 22) w := by kernel_rfl
theorem tw_parts (a : Addr) (w : World) : (ReflectliteValue.parts (.agg #[.pointer (some ⟨3, 131, none⟩), .pointer (some a), .int .u64 150])).run Tryd.prog w = .ok (some (131, a, 150)) w := by kernel_rfl
theorem tw_isNil (a p : Addr) (W : World) (ha : W.cell? a = some (.pointer (some p))) :
    (ReflectliteValue.method (ReflectliteValue.valueError "reflectlite.Value.IsNil" 0) ReflectliteValue.isNil #[.agg #[.pointer (some ⟨3, 131, none⟩), .pointer (some a), .int .u64 150]]).run Tryd.prog W = .ok (.bool false) W := by
  rw [rlm]
  simp only [Sem.run_bind, tw_parts, Result.andThen]
  simp [ReflectliteValue.isNil, loadVar, isAgg, underlying, Tryd.underlying131, ha, Result.andThen]
theorem tw_elem (w : World) : (ReflectliteType.method ReflectliteType.elem #[.agg #[.pointer (some ⟨3, 131, none⟩)]]).run Tryd.prog w = .ok (.iface 151 (.agg #[.pointer (some ⟨3, 130, none⟩)])) w := by kernel_rfl
theorem tw_implements (w : World) : (ReflectliteType.relation "Implements" ReflectliteType.implements_ #[.agg #[.pointer (some ⟨3, 130, none⟩)], .iface 151 (.agg #[.pointer (some ⟨3, 25, none⟩)])]).run Tryd.prog w = .ok (.bool true) w := by kernel_rfl
theorem tw_typeOf (v : Value) (w : World) : (ReflectliteType.typeOf #[.iface 130 v]).run Tryd.prog w = .ok (.iface 151 (.agg #[.pointer (some ⟨3, 130, none⟩)])) w := by kernel_rfl
theorem tw_valueOfT (pe : Addr) (w : World) : (ReflectliteValue.unpack (.iface 130 (.pointer (some pe)))).run Tryd.prog w
    = .ok (.agg #[.pointer (some ⟨3, 130, none⟩), .pointer (some ⟨w.heap.size, 0, none⟩), .int .u64 150]) (w.alloc (.cells #[.pointer (some pe)] 130)) := by kernel_rfl
theorem tw_elemOf (w : World) : (Rtype.elem? 131).run Tryd.prog w = .ok (some 130) w := by kernel_rfl
theorem tw_mk (p : Addr) (w : World) : (ReflectliteValue.mk 130 p ReflectliteValue.flagAddr).run Tryd.prog w = .ok (.agg #[.pointer (some ⟨3, 130, none⟩), .pointer (some p), .int .u64 406]) w := by kernel_rfl
theorem tw_elemV (a p : Addr) (W : World) (ha : W.cell? a = some (.pointer (some p))) :
    (ReflectliteValue.method (ReflectliteValue.valueError "reflectlite.Value.Elem" 0) ReflectliteValue.elem #[.agg #[.pointer (some ⟨3, 131, none⟩), .pointer (some a), .int .u64 150]]).run Tryd.prog W
      = .ok (.agg #[.pointer (some ⟨3, 130, none⟩), .pointer (some p), .int .u64 406]) W := by
  rw [rlm]
  simp only [Sem.run_bind, tw_parts, Result.andThen]
  simp [ReflectliteValue.elem, loadVar, isAgg, underlying, Tryd.underlying131, ha, Result.andThen, tw_elemOf, tw_mk]
theorem tw_parts_a (a : Addr) (w : World) : (ReflectliteValue.parts (.agg #[.pointer (some ⟨3, 130, none⟩), .pointer (some a), .int .u64 406])).run Tryd.prog w = .ok (some (130, a, 406)) w := by kernel_rfl
theorem tw_parts_b (a : Addr) (w : World) : (ReflectliteValue.parts (.agg #[.pointer (some ⟨3, 130, none⟩), .pointer (some a), .int .u64 150])).run Tryd.prog w = .ok (some (130, a, 150)) w := by kernel_rfl
theorem tw_direct (w : World) : (Rtype.directlyAssignable 130 130).run Tryd.prog w = .ok true w := by kernel_rfl
theorem tw_set (ta b : Addr) (pe : Addr) (old : Value) (W : World) (hb : W.cell? b = some (.pointer (some pe))) (ht : W.cell? ta = some old) (hf : W.frozen? ta = false) :
    (ReflectliteValue.set #[.agg #[.pointer (some ⟨3, 130, none⟩), .pointer (some ta), .int .u64 406], .agg #[.pointer (some ⟨3, 130, none⟩), .pointer (some b), .int .u64 150]]).run Tryd.prog W
      = .ok (.tuple #[]) (W.setCell ta (.pointer (some pe))) := by
  rw [rls]
  simp only [Sem.run_bind, tw_parts_a, tw_parts_b, Result.andThen]
  simp [ReflectliteValue.flagAddr, loadVar, isAgg, underlying, Tryd.underlying130, hb, Result.andThen, tw_direct, storeVar, Value.cells, storeCells, Addr.add]
  rw [run_store Tryd.prog W ta _ _ (by rfl)]
  simp [ht, hf]

/-- The Value of the target, whose own copy lies at a. -/
abbrev tw_val (a : Nat) : Value := .agg #[.pointer (some ⟨3, 131, none⟩), .pointer (some ⟨a, 0, none⟩), .int .u64 150]
abbrev tw_typ : Value := .iface 151 (.agg #[.pointer (some ⟨3, 130, none⟩)])

set_option maxHeartbeats 4000000 in
/-- errors.As up to errors.as. -/
theorem tw_head (D : TypeId) (v : Value) (t : Addr) (w : World) (hg : Handle w) {Q : Bool → World → Prop}
    (h : Calls Tryd.prog 60 #[.iface D v, .iface 131 (.pointer (some t)), tw_val w.heap.size, tw_typ] ((w.alloc (.cells #[.pointer (some t)] 131)).alloc (.cells #[.pointer (some ⟨3, 131, none⟩), .pointer (some ⟨w.heap.size, 0, none⟩), .int .u64 150] 119))
      fun e w' => ∃ b, e = .returned (.bool b) ∧ Q b w') :
    Calls Tryd.prog 23 #[.iface D v, .iface 131 (.pointer (some t))] w fun e w' => ∃ b, e = .returned (.bool b) ∧ Q b w' := by
  have x1 := @run_callFunc_extern Tryd.prog 57 _ (fun args => ReflectliteValue.unpack (args.getD 0 (.tuple #[]))) Tryd.func57 (by kernel_rfl) (by kernel_rfl) (by kernel_rfl) (by kernel_rfl)
  have x2 := @run_callFunc_extern Tryd.prog 58 _ (ReflectliteValue.methodAny (ReflectliteValue.valueError "reflectlite.Value.Type" 0) (fun t _ _ _ => ReflectliteType.toType t)) Tryd.func58 (by kernel_rfl) (by kernel_rfl) (by kernel_rfl) (by kernel_rfl)
  have x3 := @run_callFunc_extern Tryd.prog 59 _ (ReflectliteValue.method (ReflectliteValue.valueError "reflectlite.Value.IsNil" 0) ReflectliteValue.isNil) Tryd.func59 (by kernel_rfl) (by kernel_rfl) (by kernel_rfl) (by kernel_rfl)
  have x4 := @run_callFunc_extern Tryd.prog 118 _ (ReflectliteType.abiMethod fun t => do pure (.int .u8 (← Rtype.kind t))) Tryd.func118 (by kernel_rfl) (by kernel_rfl) (by kernel_rfl) (by kernel_rfl)
  have x5 := @run_callFunc_extern Tryd.prog 133 _ (ReflectliteType.method ReflectliteType.elem) Tryd.func133 (by kernel_rfl) (by kernel_rfl) (by kernel_rfl) (by kernel_rfl)
  have x6 := @run_callFunc_extern Tryd.prog 134 _ (ReflectliteType.relation "Implements" ReflectliteType.implements_) Tryd.func134 (by kernel_rfl) (by kernel_rfl) (by kernel_rfl) (by kernel_rfl)
  have f6 := tw_valueOf
  have f7 := tw_type
  have mK := rl_mK
  have mE := rl_mE
  have mI := rl_mI
  have k27 := tw_kindTT
  have k25 := tw_kindT
  have e27 := tw_elem
  have i25 := tw_implements
  have n8 := tw_isNil ⟨w.heap.size, 0, none⟩ t ((w.alloc (.cells #[.pointer (some t)] 131)).alloc (.cells #[.pointer (some ⟨3, 131, none⟩), .pointer (some ⟨w.heap.size, 0, none⟩), .int .u64 150] 119)) (by simp)
  have hg2 := (hg.alloc (.cells #[.pointer (some t)] 131)).alloc (.cells #[.pointer (some ⟨3, 131, none⟩), .pointer (some ⟨w.heap.size, 0, none⟩), .int .u64 150] 119)
  unfold Handle at hg hg2
  have HC := Lib.hid h; clear h
  go_enter Tryd.func23, Tryd.ntmps23
  go_wp2_with fail
  refine HC.out.mono ?_
  rintro e w' ⟨b, rfl, hq⟩
  have HQ := Lib.hid hq; clear hq
  go_wp2_with fail
  go_ret
  exact ⟨b, rfl, HQ.out⟩


set_option maxHeartbeats 4000000 in
theorem tw_miss_en (v : Value) (tgt : Value) (a : Nat) (w : World) :
    Calls Tryd.prog 60 #[.iface 46 v, tgt, tw_val a, tw_typ] w fun e w' => ∃ b, e = .returned (.bool b) ∧ (b = false ∧ Same (fun _ => False) w w') := by
  have x2 := @run_callFunc_extern Tryd.prog 61 _ ReflectliteType.typeOf Tryd.func61 (by kernel_rfl) (by kernel_rfl) (by kernel_rfl) (by kernel_rfl)
  have x3 := @run_callFunc_extern Tryd.prog 131 _ (ReflectliteType.relation "AssignableTo" ReflectliteType.assignableTo) Tryd.func131 (by kernel_rfl) (by kernel_rfl) (by kernel_rfl) (by kernel_rfl)
  have tO : ∀ (v : Value) (w : World), (ReflectliteType.typeOf #[.iface 46 v]).run Tryd.prog w = .ok (.iface 151 (.agg #[.pointer (some ⟨3, 46, none⟩)])) w := fun v w => by kernel_rfl
  have mA := rl_mA
  have a25 : ∀ w : World, (ReflectliteType.relation "AssignableTo" ReflectliteType.assignableTo #[.agg #[.pointer (some ⟨3, 46, none⟩)], .iface 151 (.agg #[.pointer (some ⟨3, 130, none⟩)])]).run Tryd.prog w = .ok (.bool false) w := fun w => by kernel_rfl
  have n1 := en_noAs
  have n2 := en_noUnwrap
  have n3 := en_noUnwraps
  go_enter Tryd.func60, Tryd.ntmps60
  go_wp2
  refine wp_loop_rounds 1 ?_
  rw [rounds_succ]
  go_wp2
  go_ret
  exact ⟨false, rfl, rfl, (Same.refl _ w).alloc _⟩

set_option maxHeartbeats 4000000 in
theorem tw_miss_mk (v : Value) (tgt : Value) (a : Nat) (w : World) :
    Calls Tryd.prog 60 #[.iface 41 v, tgt, tw_val a, tw_typ] w fun e w' => ∃ b, e = .returned (.bool b) ∧ (b = false ∧ Same (fun _ => False) w w') := by
  have x2 := @run_callFunc_extern Tryd.prog 61 _ ReflectliteType.typeOf Tryd.func61 (by kernel_rfl) (by kernel_rfl) (by kernel_rfl) (by kernel_rfl)
  have x3 := @run_callFunc_extern Tryd.prog 131 _ (ReflectliteType.relation "AssignableTo" ReflectliteType.assignableTo) Tryd.func131 (by kernel_rfl) (by kernel_rfl) (by kernel_rfl) (by kernel_rfl)
  have tO : ∀ (v : Value) (w : World), (ReflectliteType.typeOf #[.iface 41 v]).run Tryd.prog w = .ok (.iface 151 (.agg #[.pointer (some ⟨3, 41, none⟩)])) w := fun v w => by kernel_rfl
  have mA := rl_mA
  have a25 : ∀ w : World, (ReflectliteType.relation "AssignableTo" ReflectliteType.assignableTo #[.agg #[.pointer (some ⟨3, 41, none⟩)], .iface 151 (.agg #[.pointer (some ⟨3, 130, none⟩)])]).run Tryd.prog w = .ok (.bool false) w := fun w => by kernel_rfl
  have n1 := mk_noAs
  have n2 := mk_noUnwrap
  have n3 := mk_noUnwraps
  go_enter Tryd.func60, Tryd.ntmps60
  go_wp2
  refine wp_loop_rounds 1 ?_
  rw [rounds_succ]
  go_wp2
  go_ret
  exact ⟨false, rfl, rfl, (Same.refl _ w).alloc _⟩

end Go.Proofs.YtcbapmkipcffgaaDoor
