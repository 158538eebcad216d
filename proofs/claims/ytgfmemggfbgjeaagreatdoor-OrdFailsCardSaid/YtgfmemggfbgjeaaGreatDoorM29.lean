/-
  errors.As at *api.Twice, *api.Fault, *rialtohelp.Mark, api.Errno: nil; a plain error; a Fault, through what it wraps. Conditions: none. (Printed by wip/tools/errs_gen.py, after the worked text Toyas.)
-/
import Derived.Test.YtgfmemggfbgjeaaGreatDoorProg
import Derived.Test.YtgfmemggfbgjeaaGreatDoorM1
import Derived.WalkKit
import Derived.LaidEql
import Derived.Stop.Asserts
import Derived.RowKitTokens
import Derived.Lib.Hide
namespace Go.Proofs.YtgfmemggfbgjeaaGreatDoor
open Go.RowKit Go.Extern.Stop Go.Stop Go.Extern Go.Lib

/-- The variable that errors.As looks at. -/
def Handle (w : World) : Prop := w.cell? ⟨0, 0, none⟩ = some (.iface 158 (.agg #[.pointer (some ⟨2, 41, none⟩)]))

theorem Handle.alloc {w : World} (h : Handle w) (o : Obj) : Handle (w.alloc o) := by
  unfold Handle at *
  have hlt : 0 < w.heap.size := by
    rcases Nat.lt_or_ge 0 w.heap.size with h1 | h1
    · exact h1
    · simp [World.cell?, Array.getElem?_eq_none h1] at h
  rw [World.cell?_alloc_lt _ _ ⟨0, 0, none⟩ hlt]; exact h

theorem Handle.same {F : Nat → Prop} {w w' : World} (h : Handle w) (hs : Same F w w') (hn : ¬ F 0) : Handle w' := by
  unfold Handle at *
  have hlt : 0 < w.heap.size := by
    rcases Nat.lt_or_ge 0 w.heap.size with h1 | h1
    · exact h1
    · simp [World.cell?, Array.getElem?_eq_none h1] at h
  exact (World.cell?_of_block (a := ⟨0, 0, none⟩) (hs.block _ hlt hn)).trans h

theorem as_nil (t : Value) (w : World) :
    Calls Tryz.prog 37 #[.nilIface, t] w fun e w' => e = .returned (.bool false) ∧ w = w' := by
  go_enter Tryz.func37, Tryz.ntmps37
  go_wp2
  go_ret
  exact ⟨rfl, rfl⟩

theorem rl_mK (h : Value) (w : World) : (Go.method 327 158 (.agg #[h]) "Kind").run Tryz.prog w = .ok (128, h) w := by kernel_rfl
theorem rl_mE (h : Value) (w : World) : (Go.method 327 158 (.agg #[h]) "Elem").run Tryz.prog w = .ok (145, .agg #[h]) w := by kernel_rfl
theorem rl_mI (h : Value) (w : World) : (Go.method 327 158 (.agg #[h]) "Implements").run Tryz.prog w = .ok (146, .agg #[h]) w := by kernel_rfl
theorem rl_mA (h : Value) (w : World) : (Go.method 327 158 (.agg #[h]) "AssignableTo").run Tryz.prog w = .ok (143, .agg #[h]) w := by kernel_rfl

theorem rlm (z : Sem Value) (f : TypeId → Addr → Nat → Nat → Sem Value) (v : Value) :
    ReflectliteValue.method z f #[v] = (do match ← ReflectliteValue.parts v with | none => z | some (t, a, fl) => f t a fl (fl % 32)) := rfl
theorem rls (v x : Value) : ReflectliteValue.set #[v, x] = (do
    let (some (dst, a, fl), some (src, b, _)) := (← ReflectliteValue.parts v, ← ReflectliteValue.parts x)
      | unsupported (.noEntry "extern/(internal/reflectlite.Value).Set.zeroValue")
    if fl / ReflectliteValue.flagAddr % 2 == 0 then unsupported (.noEntry "extern/(internal/reflectlite.Value).Set.unaddressable")
    let val ← loadVar src b
    if ← Rtype.directlyAssignable dst src then storeVar dst a val
    else if ← Rtype.implements dst src then
      if (← Rtype.kind src) == 20 then
        match val with
        | .nilIface => unsupported (.noEntry "extern/reflectlite: a nil value of one interface type handed on as a value of another")
        | _ => storeVar dst a val
      else storeVar dst a (.iface src val)
    else panicString ("reflectlite.Set: value of type " ++ (← Rtype.spelt src) ++ " is not assignable to type " ++ (← Rtype.spelt dst))
    pure (.tuple #[])) := rfl

theorem en_noAs (v : Value) (w : World) : (Instr.typeAssert (.iface 65 v) 41 163 true).run Tryz.prog w = .ok (.tuple #[.nilIface, .bool false]) w := run_typeAssert_lacksB Tryz.underlying163 (by kernel_rfl) (by kernel_rfl) v 41 w
theorem en_noUnwrap (v : Value) (w : World) : (Instr.typeAssert (.iface 65 v) 41 166 true).run Tryz.prog w = .ok (.tuple #[.nilIface, .bool false]) w := run_typeAssert_lacksB Tryz.underlying166 (by kernel_rfl) (by kernel_rfl) v 41 w
theorem en_noUnwraps (v : Value) (w : World) : (Instr.typeAssert (.iface 65 v) 41 167 true).run Tryz.prog w = .ok (.tuple #[.nilIface, .bool false]) w := run_typeAssert_lacksB Tryz.underlying167 (by kernel_rfl) (by kernel_rfl) v 41 w

theorem mk_noAs (v : Value) (w : World) : (Instr.typeAssert (.iface 145 v) 41 163 true).run Tryz.prog w = .ok (.tuple #[.nilIface, .bool false]) w := run_typeAssert_lacksB Tryz.underlying163 (by kernel_rfl) (by kernel_rfl) v 41 w
theorem mk_noUnwrap (v : Value) (w : World) : (Instr.typeAssert (.iface 145 v) 41 166 true).run Tryz.prog w = .ok (.tuple #[.nilIface, .bool false]) w := run_typeAssert_lacksB Tryz.underlying166 (by kernel_rfl) (by kernel_rfl) v 41 w
theorem mk_noUnwraps (v : Value) (w : World) : (Instr.typeAssert (.iface 145 v) 41 167 true).run Tryz.prog w = .ok (.tuple #[.nilIface, .bool false]) w := run_typeAssert_lacksB Tryz.underlying167 (by kernel_rfl) (by kernel_rfl) v 41 w

end Go.Proofs.YtgfmemggfbgjeaaGreatDoor
