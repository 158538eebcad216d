/-
  errors.As at a variable of type *api.Twice: hit. Conditions: none. (Printed by wip/tools/errs_gen.py.) rialtohelp.Class, rialtohelp.Who of a Twice; of nil. Conditions: none.
-/
import Derived.Test.YtgfmemggfbgjeaaGreatDoorM41
import Derived.Test.YtgfmemggfbgjeaaGreatDoorM44
namespace Go.Proofs.YtgfmemggfbgjeaaGreatDoor
open Go.RowKit Go.Extern.Stop Go.Stop Go.Extern Go.Lib

set_option maxHeartbeats 4000000 in
/-- errors.as: the error's own type is the target's. -/
theorem tw_hit (pe : Addr) (tgt : Value) (a tb : Nat) (old : Value) (w : World) (ha : One w a (.pointer (some ⟨tb, 0, none⟩)) 96) (ht : One w tb old 92) :
    Calls Tryz.prog 64 #[.iface 92 (.pointer (some pe)), tgt, tw_val a, tw_typ] w fun e w' => ∃ b, e = .returned (.bool b) ∧ (b = true ∧ Same (fun k => k = tb) w w' ∧ One w' tb (.pointer (some pe)) 92) := by
  have x1 := @run_callFunc_extern Tryz.prog 61 _ (fun args => ReflectliteValue.unpack (args.getD 0 (.tuple #[]))) Tryz.func61 (by kernel_rfl) (by kernel_rfl) (by kernel_rfl) (by kernel_rfl)
  have x2 := @run_callFunc_extern Tryz.prog 83 _ ReflectliteType.typeOf Tryz.func83 (by kernel_rfl) (by kernel_rfl) (by kernel_rfl) (by kernel_rfl)
  have x3 := @run_callFunc_extern Tryz.prog 143 _ (ReflectliteType.relation "AssignableTo" ReflectliteType.assignableTo) Tryz.func143 (by kernel_rfl) (by kernel_rfl) (by kernel_rfl) (by kernel_rfl)
  have x4 := @run_callFunc_extern Tryz.prog 84 _ (ReflectliteValue.method (ReflectliteValue.valueError "reflectlite.Value.Elem" 0) ReflectliteValue.elem) Tryz.func84 (by kernel_rfl) (by kernel_rfl) (by kernel_rfl) (by kernel_rfl)
  have x5 := @run_callFunc_extern Tryz.prog 85 _ ReflectliteValue.set Tryz.func85 (by kernel_rfl) (by kernel_rfl) (by kernel_rfl) (by kernel_rfl)
  have tO := tw_typeOf
  have mA := rl_mA
  have a25 : ∀ w : World, (ReflectliteType.relation "AssignableTo" ReflectliteType.assignableTo #[.agg #[.pointer (some ⟨2, 92, none⟩)], .iface 158 (.agg #[.pointer (some ⟨2, 92, none⟩)])]).run Tryz.prog w = .ok (.bool true) w := fun w => by kernel_rfl
  have v25 := tw_valueOfT
  have hal := ha.lt
  have htl := ht.lt
  have ha1 := ha.alloc (.cells #[.pointer (some ⟨2, 96, none⟩), .pointer (some ⟨a, 0, none⟩), .int .u64 150] 125)
  have ht2 := (ht.alloc (.cells #[.pointer (some ⟨2, 96, none⟩), .pointer (some ⟨a, 0, none⟩), .int .u64 150] 125)).alloc (.cells #[.pointer (some pe)] 92)
  have el := tw_elemV ⟨a, 0, none⟩ ⟨tb, 0, none⟩ _ ha1.cell
  have hs := (((Same.refl (fun k => k = tb) w).setCell (p := ⟨tb, 0, none⟩) (fun _ => rfl) (.pointer (some pe))).alloc (.cells #[.pointer (some ⟨2, 96, none⟩), .pointer (some ⟨a, 0, none⟩), .int .u64 150] 125)).alloc (.cells #[.pointer (some pe)] 92)
  have hn := ((ht.setCell (.pointer (some pe))).alloc (.cells #[.pointer (some ⟨2, 96, none⟩), .pointer (some ⟨a, 0, none⟩), .int .u64 150] 125)).alloc (.cells #[.pointer (some pe)] 92)
  have st := tw_set ⟨tb, 0, none⟩ ⟨w.heap.size + 1, 0, none⟩ pe old _ (by
    simp) ht2.cell ht2.free
  have HN := Lib.hid hn; have HS := Lib.hid hs
  clear ht2 hs ha1 ha ht hn
  go_enter Tryz.func64, Tryz.ntmps64
  go_wp2
  refine wp_loop_rounds 1 ?_
  rw [rounds_succ]
  go_wp2
  go_ret
  exact ⟨true, rfl, rfl, HS.out, HN.out⟩

end Go.Proofs.YtgfmemggfbgjeaaGreatDoor

namespace Go.Proofs.YtgfmemggfbgjeaaGreatDoor
open Go.RowKit Go.Extern.Stop Go.Stop Go.Extern Go.Lib

theorem tw_as_tw {w : World} (pe : Addr) (tb : Nat) {old : Value} (hg : Handle w) (ht : One w tb old 92) :
    Calls Tryz.prog 37 #[.iface 92 (.pointer (some pe)), .iface 96 (.pointer (some ⟨tb, 0, none⟩))] w fun e w' => e = .returned (.bool true) ∧ Same (fun k => k = tb) w w' ∧ One w' tb (.pointer (some pe)) 92 := by
  have hs := ((Same.refl (fun k => k = tb) w).alloc (.cells #[.pointer (some ⟨tb, 0, none⟩)] 96)).alloc (.cells #[.pointer (some ⟨2, 96, none⟩), .pointer (some ⟨w.heap.size, 0, none⟩), .int .u64 150] 125)
  have ht2 := (ht.alloc (.cells #[.pointer (some ⟨tb, 0, none⟩)] 96)).alloc (.cells #[.pointer (some ⟨2, 96, none⟩), .pointer (some ⟨w.heap.size, 0, none⟩), .int .u64 150] 125)
  have ha := (One.new w (.pointer (some ⟨tb, 0, none⟩)) 96).alloc (.cells #[.pointer (some ⟨2, 96, none⟩), .pointer (some ⟨w.heap.size, 0, none⟩), .int .u64 150] 125)
  refine (tw_head _ _ ⟨tb, 0, none⟩ w hg (Q := fun b w' => b = true ∧ Same (fun k => k = tb) w w' ∧ One w' tb (.pointer (some pe)) 92) ?_).mono ?_
  · exact (tw_hit pe _ _ tb old _ ha ht2).mono fun e w' ⟨b, e1, e2, e3, e4⟩ => ⟨b, e1, e2, hs.trans e3 (fun _ _ h => h), e4⟩
  · rintro e w' ⟨b, rfl, rfl, h⟩
    exact ⟨rfl, h⟩

theorem class_twice {w : World} (pe : Addr) (hg : Handle w) :
    Calls Tryz.prog 13 #[.iface 92 (.pointer (some pe))] w fun e w' => e = .returned (.int .i64 80) ∧ Same (fun _ => False) w w' := by
  have hs1 := (Same.refl (fun _ => False) w).alloc (.cells #[.pointer none] 92)
  have hg1 := hg.alloc (.cells #[.pointer none] 92)
  have HTW := Lib.hid (tw_as_tw pe w.heap.size hg1 (One.new w (.pointer none) 92))
  have HS1 := Lib.hid hs1
  clear hs1 hg1 hg
  go_enter Tryz.func13, Tryz.ntmps13
  go_wp2_with fail
  refine HTW.out.mono ?_
  rintro e w1 ⟨rfl, hs, ho⟩
  have hs4 := HS1.out.trans hs (fun k hk he => by omega)
  have hc := ho.cell
  have HS4 := Lib.hid hs4
  clear hs hs4 ho HTW HS1
  go_wp2_with fail
  go_ret
  exact ⟨rfl, HS4.out⟩

theorem class_nil (w : World) :
    Calls Tryz.prog 13 #[.nilIface] w fun e w' => e = .returned (.int .i64 0) ∧ Same (fun _ => False) w w' := by
  go_enter Tryz.func13, Tryz.ntmps13
  go_wp2_with fail
  go_ret
  exact ⟨rfl, Same.refl _ _⟩

abbrev twObj (id : Int) : Obj := .cells #[.string ⟨#[]⟩, .int .i64 id] 94

theorem who_twice {w : World} {b : Nat} {id : Int} (hg : Handle w) (hb : w.heap[b]? = some (twObj id)) :
    Calls Tryz.prog 14 #[.iface 92 (.pointer (some ⟨b, 0, none⟩))] w fun e w' => e = .returned (.int .i64 id) ∧ Same (fun _ => False) w w' := by
  have hs1 := (Same.refl (fun _ => False) w).alloc (.cells #[.pointer none] 92)
  have hg1 := hg.alloc (.cells #[.pointer none] 92)
  have HTW := Lib.hid (tw_as_tw ⟨b, 0, none⟩ w.heap.size hg1 (One.new w (.pointer none) 92))
  have HS1 := Lib.hid hs1; have HB := Lib.hid hb
  clear hs1 hg1 hg hb
  go_enter Tryz.func14, Tryz.ntmps14
  go_wp2_with fail
  refine HTW.out.mono ?_
  rintro e w1 ⟨rfl, hs, ho⟩
  have hbl : b < w.heap.size := lt_of_block HB.out
  have hs4 := HS1.out.trans hs (fun k hk he => by omega)
  have hc := ho.cell
  have hb4 : w1.heap[b]? = some (twObj id) := hs4.obj HB.out (fun h => h)
  have hb0 : w1.cell? ⟨b, 0, none⟩ = some (.string ⟨#[]⟩) := by simp [World.cell?, hb4]
  have hb1 : w1.cell? ⟨b, 1, none⟩ = some (.int .i64 id) := by simp [World.cell?, hb4]
  have hl := lt_of_block hb4
  have HS4 := Lib.hid hs4
  clear hs hs4 ho HTW HS1 hb4
  go_wp2_with fail
  go_ret
  exact ⟨rfl, HS4.out⟩

theorem who_nil (w : World) :
    Calls Tryz.prog 14 #[.nilIface] w fun e w' => e = .returned (.int .i64 0) ∧ Same (fun _ => False) w w' := by
  go_enter Tryz.func14, Tryz.ntmps14
  go_wp2_with fail
  go_ret
  exact ⟨rfl, (Same.refl _ w).alloc _⟩

end Go.Proofs.YtgfmemggfbgjeaaGreatDoor
