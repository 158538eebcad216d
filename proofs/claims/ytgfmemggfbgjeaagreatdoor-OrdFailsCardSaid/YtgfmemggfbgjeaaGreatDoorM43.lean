/-
  errors.As at a variable of type api.Errno: up to errors.as; hit; missed. Conditions: none. (Printed by wip/tools/errs_gen.py, after the worked text Toyas.)
-/
import Derived.Test.YtgfmemggfbgjeaaGreatDoorM29
namespace Go.Proofs.YtgfmemggfbgjeaaGreatDoor
open Go.RowKit Go.Extern.Stop Go.Stop Go.Extern Go.Lib

/-! ### target en -/
theorem en_valueOf (t : Addr) (w : World) : (ReflectliteValue.unpack (.iface 99 (.pointer (some t)))).run Tryz.prog w
    = .ok (.agg #[.pointer (some ⟨2, 99, none⟩), .pointer (some ⟨w.heap.size, 0, none⟩), .int .u64 150]) (w.alloc (.cells #[.pointer (some t)] 99)) := by kernel_rfl
theorem en_type (a : Addr) (w : World) : (ReflectliteValue.methodAny (ReflectliteValue.valueError "reflectlite.Value.Type" 0) (fun t _ _ _ => ReflectliteType.toType t) #[.agg #[.pointer (some ⟨2, 99, none⟩), .pointer (some a), .int .u64 150]]).run Tryz.prog w
    = .ok (.iface 158 (.agg #[.pointer (some ⟨2, 99, none⟩)])) w := by kernel_rfl
theorem en_kindTT (w : World) : ((ReflectliteType.abiMethod fun t => (fun a : Nat => Value.int IntKind.u8 (a : Int)) <$> Rtype.kind t) #[.pointer (some ⟨2, 99, none⟩)]).run Tryz.prog w = .ok (.int .u8 22) w := by kernel_rfl
theorem en_kindT (w : World) : ((ReflectliteType.abiMethod fun t => (fun a : Nat => Value.int IntKind.u8 (a : Int)) <$> Rtype.kind t) #[.pointer (some ⟨2, 65, none⟩)]).run Tryz.prog w = .ok (.int .u8 2) w := by kernel_rfl
theorem en_parts (a : Addr) (w : World) : (ReflectliteValue.parts (.agg #[.pointer (some ⟨2, 99, none⟩), .pointer (some a), .int .u64 150])).run Tryz.prog w = .ok (some (99, a, 150)) w := by kernel_rfl
theorem en_isNil (a p : Addr) (W : World) (ha : W.cell? a = some (.pointer (some p))) :
    (ReflectliteValue.method (ReflectliteValue.valueError "reflectlite.Value.IsNil" 0) ReflectliteValue.isNil #[.agg #[.pointer (some ⟨2, 99, none⟩), .pointer (some a), .int .u64 150]]).run Tryz.prog W = .ok (.bool false) W := by
  rw [rlm]
  simp only [Sem.run_bind, en_parts, Result.andThen]
  simp [ReflectliteValue.isNil, loadVar, isAgg, underlying, Tryz.underlying99, ha, Result.andThen]
theorem en_elem (w : World) : (ReflectliteType.method ReflectliteType.elem #[.agg #[.pointer (some ⟨2, 99, none⟩)]]).run Tryz.prog w = .ok (.iface 158 (.agg #[.pointer (some ⟨2, 65, none⟩)])) w := by kernel_rfl
theorem en_implements (w : World) : (ReflectliteType.relation "Implements" ReflectliteType.implements_ #[.agg #[.pointer (some ⟨2, 65, none⟩)], .iface 158 (.agg #[.pointer (some ⟨2, 41, none⟩)])]).run Tryz.prog w = .ok (.bool true) w := by kernel_rfl
theorem en_typeOf (v : Value) (w : World) : (ReflectliteType.typeOf #[.iface 65 v]).run Tryz.prog w = .ok (.iface 158 (.agg #[.pointer (some ⟨2, 65, none⟩)])) w := by kernel_rfl
theorem en_valueOfT (pe : Int) (w : World) : (ReflectliteValue.unpack (.iface 65 (.int .i64 pe))).run Tryz.prog w
    = .ok (.agg #[.pointer (some ⟨2, 65, none⟩), .pointer (some ⟨w.heap.size, 0, none⟩), .int .u64 130]) (w.alloc (.cells #[.int .i64 pe] 65)) := by kernel_rfl
theorem en_elemOf (w : World) : (Rtype.elem? 99).run Tryz.prog w = .ok (some 65) w := by kernel_rfl
theorem en_mk (p : Addr) (w : World) : (ReflectliteValue.mk 65 p ReflectliteValue.flagAddr).run Tryz.prog w = .ok (.agg #[.pointer (some ⟨2, 65, none⟩), .pointer (some p), .int .u64 386]) w := by kernel_rfl
theorem en_elemV (a p : Addr) (W : World) (ha : W.cell? a = some (.pointer (some p))) :
    (ReflectliteValue.method (ReflectliteValue.valueError "reflectlite.Value.Elem" 0) ReflectliteValue.elem #[.agg #[.pointer (some ⟨2, 99, none⟩), .pointer (some a), .int .u64 150]]).run Tryz.prog W
      = .ok (.agg #[.pointer (some ⟨2, 65, none⟩), .pointer (some p), .int .u64 386]) W := by
  rw [rlm]
  simp only [Sem.run_bind, en_parts, Result.andThen]
  simp [ReflectliteValue.elem, loadVar, isAgg, underlying, Tryz.underlying99, ha, Result.andThen, en_elemOf, en_mk]
theorem en_parts_a (a : Addr) (w : World) : (ReflectliteValue.parts (.agg #[.pointer (some ⟨2, 65, none⟩), .pointer (some a), .int .u64 386])).run Tryz.prog w = .ok (some (65, a, 386)) w := by kernel_rfl
theorem en_parts_b (a : Addr) (w : World) : (ReflectliteValue.parts (.agg #[.pointer (some ⟨2, 65, none⟩), .pointer (some a), .int .u64 130])).run Tryz.prog w = .ok (some (65, a, 130)) w := by kernel_rfl
theorem en_direct (w : World) : (Rtype.directlyAssignable 65 65).run Tryz.prog w = .ok true w := by kernel_rfl
theorem en_set (ta b : Addr) (pe : Int) (old : Value) (W : World) (hb : W.cell? b = some (.int .i64 pe)) (ht : W.cell? ta = some old) (hf : W.frozen? ta = false) :
    (ReflectliteValue.set #[.agg #[.pointer (some ⟨2, 65, none⟩), .pointer (some ta), .int .u64 386], .agg #[.pointer (some ⟨2, 65, none⟩), .pointer (some b), .int .u64 130]]).run Tryz.prog W
      = .ok (.tuple #[]) (W.setCell ta (.int .i64 pe)) := by
  rw [rls]
  simp only [Sem.run_bind, en_parts_a, en_parts_b, Result.andThen]
  simp [ReflectliteValue.flagAddr, loadVar, isAgg, underlying, Tryz.underlying65, hb, Result.andThen, en_direct, storeVar, Value.cells, storeCells, Addr.add]
  rw [run_store Tryz.prog W ta _ _ (by rfl)]
  simp [ht, hf]

/-- The Value of the target, whose own copy lies at a. -/
abbrev en_val (a : Nat) : Value := .agg #[.pointer (some ⟨2, 99, none⟩), .pointer (some ⟨a, 0, none⟩), .int .u64 150]
abbrev en_typ : Value := .iface 158 (.agg #[.pointer (some ⟨2, 65, none⟩)])

set_option maxHeartbeats 4000000 in
/-- errors.As up to errors.as. -/
theorem en_head (D : TypeId) (v : Value) (t : Addr) (w : World) (hg : Handle w) {Q : Bool → World → Prop}
    (h : Calls Tryz.prog 64 #[.iface D v, .iface 99 (.pointer (some t)), en_val w.heap.size, en_typ] ((w.alloc (.cells #[.pointer (some t)] 99)).alloc (.cells #[.pointer (some ⟨2, 99, none⟩), .pointer (some ⟨w.heap.size, 0, none⟩), .int .u64 150] 125))
      fun e w' => ∃ b, e = .returned (.bool b) ∧ Q b w') :
    Calls Tryz.prog 37 #[.iface D v, .iface 99 (.pointer (some t))] w fun e w' => ∃ b, e = .returned (.bool b) ∧ Q b w' := by
  have x1 := @run_callFunc_extern Tryz.prog 61 _ (fun args => ReflectliteValue.unpack (args.getD 0 (.tuple #[]))) Tryz.func61 (by kernel_rfl) (by kernel_rfl) (by kernel_rfl) (by kernel_rfl)
  have x2 := @run_callFunc_extern Tryz.prog 62 _ (ReflectliteValue.methodAny (ReflectliteValue.valueError "reflectlite.Value.Type" 0) (fun t _ _ _ => ReflectliteType.toType t)) Tryz.func62 (by kernel_rfl) (by kernel_rfl) (by kernel_rfl) (by kernel_rfl)
  have x3 := @run_callFunc_extern Tryz.prog 63 _ (ReflectliteValue.method (ReflectliteValue.valueError "reflectlite.Value.IsNil" 0) ReflectliteValue.isNil) Tryz.func63 (by kernel_rfl) (by kernel_rfl) (by kernel_rfl) (by kernel_rfl)
  have x4 := @run_callFunc_extern Tryz.prog 128 _ (ReflectliteType.abiMethod fun t => do pure (.int .u8 (← Rtype.kind t))) Tryz.func128 (by kernel_rfl) (by kernel_rfl) (by kernel_rfl) (by kernel_rfl)
  have x5 := @run_callFunc_extern Tryz.prog 145 _ (ReflectliteType.method ReflectliteType.elem) Tryz.func145 (by kernel_rfl) (by kernel_rfl) (by kernel_rfl) (by kernel_rfl)
  have x6 := @run_callFunc_extern Tryz.prog 146 _ (ReflectliteType.relation "Implements" ReflectliteType.implements_) Tryz.func146 (by kernel_rfl) (by kernel_rfl) (by kernel_rfl) (by kernel_rfl)
  have f6 := en_valueOf
  have f7 := en_type
  have mK := rl_mK
  have mE := rl_mE
  have mI := rl_mI
  have k27 := en_kindTT
  have k25 := en_kindT
  have e27 := en_elem
  have i25 := en_implements
  have n8 := en_isNil ⟨w.heap.size, 0, none⟩ t ((w.alloc (.cells #[.pointer (some t)] 99)).alloc (.cells #[.pointer (some ⟨2, 99, none⟩), .pointer (some ⟨w.heap.size, 0, none⟩), .int .u64 150] 125)) (by simp)
  have hg2 := (hg.alloc (.cells #[.pointer (some t)] 99)).alloc (.cells #[.pointer (some ⟨2, 99, none⟩), .pointer (some ⟨w.heap.size, 0, none⟩), .int .u64 150] 125)
  unfold Handle at hg hg2
  have HC := Lib.hid h; clear h
  go_enter Tryz.func37, Tryz.ntmps37
  go_wp2_with fail
  refine HC.out.mono ?_
  rintro e w' ⟨b, rfl, hq⟩
  have HQ := Lib.hid hq; clear hq
  go_wp2_with fail
  go_ret
  exact ⟨b, rfl, HQ.out⟩

set_option maxHeartbeats 4000000 in
/-- errors.as: the error's own type is the target's. -/
theorem en_hit (pe : Int) (tgt : Value) (a tb : Nat) (old : Value) (w : World) (ha : One w a (.pointer (some ⟨tb, 0, none⟩)) 99) (ht : One w tb old 65) :
    Calls Tryz.prog 64 #[.iface 65 (.int .i64 pe), tgt, en_val a, en_typ] w fun e w' => ∃ b, e = .returned (.bool b) ∧ (b = true ∧ Same (fun k => k = tb) w w' ∧ One w' tb (.int .i64 pe) 65) := by
  have x1 := @run_callFunc_extern Tryz.prog 61 _ (fun args => ReflectliteValue.unpack (args.getD 0 (.tuple #[]))) Tryz.func61 (by kernel_rfl) (by kernel_rfl) (by kernel_rfl) (by kernel_rfl)
  have x2 := @run_callFunc_extern Tryz.prog 83 _ ReflectliteType.typeOf Tryz.func83 (by kernel_rfl) (by kernel_rfl) (by kernel_rfl) (by kernel_rfl)
  have x3 := @run_callFunc_extern Tryz.prog 143 _ (ReflectliteType.relation "AssignableTo" ReflectliteType.assignableTo) Tryz.func143 (by kernel_rfl) (by kernel_rfl) (by kernel_rfl) (by kernel_rfl)
  have x4 := @run_callFunc_extern Tryz.prog 84 _ (ReflectliteValue.method (ReflectliteValue.valueError "reflectlite.Value.Elem" 0) ReflectliteValue.elem) Tryz.func84 (by kernel_rfl) (by kernel_rfl) (by kernel_rfl) (by kernel_rfl)
  have x5 := @run_callFunc_extern Tryz.prog 85 _ ReflectliteValue.set Tryz.func85 (by kernel_rfl) (by kernel_rfl) (by kernel_rfl) (by kernel_rfl)
  have tO := en_typeOf
  have mA := rl_mA
  have a25 : ∀ w : World, (ReflectliteType.relation "AssignableTo" ReflectliteType.assignableTo #[.agg #[.pointer (some ⟨2, 65, none⟩)], .iface 158 (.agg #[.pointer (some ⟨2, 65, none⟩)])]).run Tryz.prog w = .ok (.bool true) w := fun w => by kernel_rfl
  have v25 := en_valueOfT
  have hal := ha.lt
  have htl := ht.lt
  have ha1 := ha.alloc (.cells #[.pointer (some ⟨2, 99, none⟩), .pointer (some ⟨a, 0, none⟩), .int .u64 150] 125)
  have ht2 := (ht.alloc (.cells #[.pointer (some ⟨2, 99, none⟩), .pointer (some ⟨a, 0, none⟩), .int .u64 150] 125)).alloc (.cells #[.int .i64 pe] 65)
  have el := en_elemV ⟨a, 0, none⟩ ⟨tb, 0, none⟩ _ ha1.cell
  have hs := (((Same.refl (fun k => k = tb) w).setCell (p := ⟨tb, 0, none⟩) (fun _ => rfl) (.int .i64 pe)).alloc (.cells #[.pointer (some ⟨2, 99, none⟩), .pointer (some ⟨a, 0, none⟩), .int .u64 150] 125)).alloc (.cells #[.int .i64 pe] 65)
  have hn := ((ht.setCell (.int .i64 pe)).alloc (.cells #[.pointer (some ⟨2, 99, none⟩), .pointer (some ⟨a, 0, none⟩), .int .u64 150] 125)).alloc (.cells #[.int .i64 pe] 65)
  have st := en_set ⟨tb, 0, none⟩ ⟨w.heap.size + 1, 0, none⟩ pe old _ (by
    simp) ht2.cell ht2.free
  have HN := Lib.hid hn; have HS := Lib.hid hs
  clear ht2 hs ha1 ha ht hn
  go_enter Tryz.func64, Tryz.ntmps64
  go_wp2
  refine wp_loop_rounds 1 ?_
  rw [rounds_succ]
  go_wp2
  go_ret
  exact ⟨true, rfl, rfl, HS.out, HN.out⟩

set_option maxHeartbeats 4000000 in
theorem en_miss_mk (v : Value) (tgt : Value) (a : Nat) (w : World) :
    Calls Tryz.prog 64 #[.iface 145 v, tgt, en_val a, en_typ] w fun e w' => ∃ b, e = .returned (.bool b) ∧ (b = false ∧ Same (fun _ => False) w w') := by
  have x2 := @run_callFunc_extern Tryz.prog 83 _ ReflectliteType.typeOf Tryz.func83 (by kernel_rfl) (by kernel_rfl) (by kernel_rfl) (by kernel_rfl)
  have x3 := @run_callFunc_extern Tryz.prog 143 _ (ReflectliteType.relation "AssignableTo" ReflectliteType.assignableTo) Tryz.func143 (by kernel_rfl) (by kernel_rfl) (by kernel_rfl) (by kernel_rfl)
  have tO : ∀ (v : Value) (w : World), (ReflectliteType.typeOf #[.iface 145 v]).run Tryz.prog w = .ok (.iface 158 (.agg #[.pointer (some ⟨2, 145, none⟩)])) w := fun v w => by kernel_rfl
  have mA := rl_mA
  have a25 : ∀ w : World, (ReflectliteType.relation "AssignableTo" ReflectliteType.assignableTo #[.agg #[.pointer (some ⟨2, 145, none⟩)], .iface 158 (.agg #[.pointer (some ⟨2, 65, none⟩)])]).run Tryz.prog w = .ok (.bool false) w := fun w => by kernel_rfl
  have n1 := mk_noAs
  have n2 := mk_noUnwrap
  have n3 := mk_noUnwraps
  go_enter Tryz.func64, Tryz.ntmps64
  go_wp2
  refine wp_loop_rounds 1 ?_
  rw [rounds_succ]
  go_wp2
  go_ret
  exact ⟨false, rfl, rfl, (Same.refl _ w).alloc _⟩

end Go.Proofs.YtgfmemggfbgjeaaGreatDoor
