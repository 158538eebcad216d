/-
  errors.As at a *rialtohelp.Mark of a Fault that wraps one: found. Conditions: none.
-/
import Derived.Test.YtcbapmkipcffgaaDoorErrsIs
import Derived.Test.YtcbapmkipcffgaaDoorErrsMk
namespace Go.Proofs.YtcbapmkipcffgaaDoor
open Go.RowKit Go.Extern.Stop Go.Stop Go.Extern Go.Lib

abbrev markV (pe : Nat) : Value := .iface 41 (.pointer (some ⟨pe, 0, none⟩))
abbrev mkBox (a : Nat) : Obj := .cells #[.pointer (some ⟨3, 109, none⟩), .pointer (some ⟨a, 0, none⟩), .int .u64 150] 119

set_option maxHeartbeats 4000000 in
theorem mk_fault {w : World} {p pe a tb : Nat} {old : Value} (hu : Unwraps (w.alloc (mkBox a)) p [errCb, markV pe]) (ha : One w a (.pointer (some ⟨tb, 0, none⟩)) 109) (ht : One w tb old 41) (tgt : Value) :
    Calls Tryd.prog 60 #[.iface 48 (.pointer (some ⟨p, 0, none⟩)), tgt, mk_val a, mk_typ] w fun e w' => ∃ b, e = .returned (.bool b) ∧ (b = true ∧ Same (fun k => k = tb) w w' ∧ One w' tb (.pointer (some ⟨pe, 0, none⟩)) 41) := by
  have x2 := @run_callFunc_extern Tryd.prog 61 _ ReflectliteType.typeOf Tryd.func61 (by kernel_rfl) (by kernel_rfl) (by kernel_rfl) (by kernel_rfl)
  have x3 := @run_callFunc_extern Tryd.prog 131 _ (ReflectliteType.relation "AssignableTo" ReflectliteType.assignableTo) Tryd.func131 (by kernel_rfl) (by kernel_rfl) (by kernel_rfl) (by kernel_rfl)
  have tO : ∀ (v : Value) (w : World), (ReflectliteType.typeOf #[.iface 48 v]).run Tryd.prog w = .ok (.iface 151 (.agg #[.pointer (some ⟨3, 48, none⟩)])) w := fun v w => by kernel_rfl
  have mA := rl_mA
  have a25 : ∀ w : World, (ReflectliteType.relation "AssignableTo" ReflectliteType.assignableTo #[.agg #[.pointer (some ⟨3, 48, none⟩)], .iface 151 (.agg #[.pointer (some ⟨3, 41, none⟩)])]).run Tryd.prog w = .ok (.bool false) w := fun w => by kernel_rfl
  have n1 := fault_noAs
  have n2 := fault_noUnwrap
  have n3 := fault_unwraps
  have mU := fault_mU
  have hs1 := (Same.refl (fun _ => False) w).alloc (mkBox a)
  have hs := hs1.alloc (.cells #[errCb, markV pe] 25)
  have ha2 := (ha.alloc (mkBox a)).alloc (.cells #[errCb, markV pe] 25)
  have ht2 := (ht.alloc (mkBox a)).alloc (.cells #[errCb, markV pe] 25)
  have hv0 : (w.alloc (mkBox a)).heap[w.heap.size]? = some (mkBox a) := heap_alloc_new _ _
  have hv1 := ((Same.refl (fun _ => False) (w.alloc (mkBox a))).alloc (.cells #[errCb, markV pe] 25)).obj hv0 id
  have hb := heap_alloc_new (w.alloc (mkBox a)) (.cells #[errCb, markV pe] 25)
  rw [alloc_size] at hb
  have HU := Lib.hid hu; have HS := Lib.hid hs; have HA := Lib.hid ha2; have HT := Lib.hid ht2; have HV := Lib.hid hv1; have HB := Lib.hid hb
  clear hu hs hs1 ha2 ht2 ha ht hv0 hv1 hb
  go_enter Tryd.func60, Tryd.ntmps60
  go_wp2_with fail
  refine wp_loop_rounds 1 ?_
  rw [rounds_succ]
  go_wp2_with (go_at_call 124; refine HU.out.mono ?_; rintro e w' ⟨rfl, rfl⟩)
  refine wp_loop_rounds 3 ?_
  rw [rounds_succ]
  go_wp2_with fail
  refine (mk_miss_en (.int .i64 50) tgt a _).mono ?_
  rintro e w2 ⟨b, rfl, rfl, hs2⟩
  have hb2 := hs2.obj HB.out id
  have k0 : w2.cell? ⟨w.heap.size + 1, 1, none⟩ = some (markV pe) := by simp [World.cell?, hb2]
  have hbl := lt_of_block hb2
  have hv2 := hs2.obj HV.out id
  have v0 : w2.cell? ⟨w.heap.size, 0, none⟩ = some (.pointer (some ⟨3, 109, none⟩)) := by simp [World.cell?, hv2]
  have v1 : w2.cell? ⟨w.heap.size, 1, none⟩ = some (.pointer (some ⟨a, 0, none⟩)) := by simp [World.cell?, hv2]
  have v2 : w2.cell? ⟨w.heap.size, 2, none⟩ = some (.int .u64 150) := by simp [World.cell?, hv2]
  have HS2 := Lib.hid (HS.out.trans hs2 (fun _ _ h => h)); have HA2 := Lib.hid (hs2.one HA.out id); have HT2 := Lib.hid (hs2.one HT.out id)
  clear hs2 hb2 hv2
  go_wp2_with fail
  rw [rounds_succ]
  go_wp2_with fail
  refine (mk_hit ⟨pe, 0, none⟩ tgt a tb old _ HA2.out HT2.out).mono ?_
  rintro e w3 ⟨b, rfl, rfl, hs3, ho3⟩
  have HS3 := Lib.hid ((HS2.out.weaken (F' := fun k => k = tb) (fun _ _ h => h.elim)).trans hs3 (fun _ _ h => h)); have HO3 := Lib.hid ho3
  clear hs3 ho3
  go_wp2_with fail
  go_ret
  exact ⟨true, rfl, rfl, HS3.out, HO3.out⟩

end Go.Proofs.YtcbapmkipcffgaaDoor
