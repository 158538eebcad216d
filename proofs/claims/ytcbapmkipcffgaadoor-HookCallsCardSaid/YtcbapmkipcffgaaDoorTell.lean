/-
  Class, Where and Struck of a Fault. Conditions: none.
-/
import Derived.Test.YtcbapmkipcffgaaDoorFault
namespace Go.Proofs.YtcbapmkipcffgaaDoor
open Go.RowKit Go.Extern.Stop Go.Stop Go.Extern Go.Lib

/-- A Fault that wraps no Twice. -/
def FaultOk (err pan : Value) : Prop := (∃ D x, err = .iface D x ∧ MissTw err) ∨ (err = .nilIface ∧ NoErr pan) ∨ (err = .nilIface ∧ ∃ T x, pan = .iface T x ∧ IsErr pan ∧ MissTw pan)

abbrev faultV (p : Nat) : Value := .iface 48 (.pointer (some ⟨p, 0, none⟩))

theorem tw_as {w : World} {p : Nat} {wh : ByteArray} {err pan : Value} (h : w.heap[p]? = some (faultObj wh err pan)) (hk : FaultOk err pan) (hg : Handle w) (t : Addr) :
    Calls Tryd.prog 23 #[faultV p, .iface 131 (.pointer (some t))] w fun e w' => e = .returned (.bool false) ∧ Same (fun _ => False) w w' := by
  have hs := ((Same.refl (fun _ => False) w).alloc (.cells #[.pointer (some t)] 131)).alloc (.cells #[.pointer (some ⟨3, 131, none⟩), .pointer (some ⟨w.heap.size, 0, none⟩), .int .u64 150] 119)
  have h2 := hs.obj h id
  refine (tw_head _ _ t w hg (Q := fun b w' => b = false ∧ Same (fun _ => False) w w') ?_).mono ?_
  · rcases hk with ⟨D, x, rfl, hm⟩ | ⟨rfl, hn⟩ | ⟨rfl, T, x, rfl, hi, hm⟩
    · exact (tw_fault2 h2 hm _ _).mono fun e w' ⟨b, e1, e2, e3⟩ => ⟨b, e1, e2, hs.trans e3 (fun _ _ h => h)⟩
    · exact (tw_fault1 h2 hn _ _).mono fun e w' ⟨b, e1, e2, e3⟩ => ⟨b, e1, e2, hs.trans e3 (fun _ _ h => h)⟩
    · exact (tw_fault3 h2 hi hm _ _).mono fun e w' ⟨b, e1, e2, e3⟩ => ⟨b, e1, e2, hs.trans e3 (fun _ _ h => h)⟩
  · rintro e w' ⟨b, rfl, rfl, h⟩
    exact ⟨rfl, h⟩

theorem fa_as {w : World} (p tb : Nat) {old : Value} (hg : Handle w) (ht : One w tb old 48) :
    Calls Tryd.prog 23 #[faultV p, .iface 50 (.pointer (some ⟨tb, 0, none⟩))] w fun e w' => e = .returned (.bool true) ∧ Same (fun k => k = tb) w w' ∧ One w' tb (.pointer (some ⟨p, 0, none⟩)) 48 := by
  have hs := ((Same.refl (fun k => k = tb) w).alloc (.cells #[.pointer (some ⟨tb, 0, none⟩)] 50)).alloc (.cells #[.pointer (some ⟨3, 50, none⟩), .pointer (some ⟨w.heap.size, 0, none⟩), .int .u64 150] 119)
  have ht2 := (ht.alloc (.cells #[.pointer (some ⟨tb, 0, none⟩)] 50)).alloc (.cells #[.pointer (some ⟨3, 50, none⟩), .pointer (some ⟨w.heap.size, 0, none⟩), .int .u64 150] 119)
  have ha := (One.new w (.pointer (some ⟨tb, 0, none⟩)) 50).alloc (.cells #[.pointer (some ⟨3, 50, none⟩), .pointer (some ⟨w.heap.size, 0, none⟩), .int .u64 150] 119)
  refine (fa_head _ _ ⟨tb, 0, none⟩ w hg (Q := fun b w' => b = true ∧ Same (fun k => k = tb) w w' ∧ One w' tb (.pointer (some ⟨p, 0, none⟩)) 48) ?_).mono ?_
  · exact (fa_hit ⟨p, 0, none⟩ _ _ tb old _ ha ht2).mono fun e w' ⟨b, e1, e2, e3, e4⟩ => ⟨b, e1, e2, hs.trans e3 (fun _ _ h => h), e4⟩
  · rintro e w' ⟨b, rfl, rfl, h⟩
    exact ⟨rfl, h⟩

theorem class_nil (w : World) : Calls Tryd.prog 30 #[.nilIface] w fun e w' => e = .returned (.int .i64 0) ∧ w = w' := by
  go_enter Tryd.func30, Tryd.ntmps30
  go_wp2_with fail
  go_ret
  exact ⟨rfl, rfl⟩

theorem where_nil (w : World) : Calls Tryd.prog 31 #[.nilIface] w fun e w' => e = .returned (.string ⟨#[]⟩) ∧ w = w' := by
  go_enter Tryd.func31, Tryd.ntmps31
  go_wp2_with fail
  go_ret
  exact ⟨rfl, rfl⟩

theorem struck_nil (w : World) : Calls Tryd.prog 14 #[.nilIface] w fun e w' => e = .returned (.int .i64 0) ∧ Same (fun _ => False) w w' := by
  have hs := (Same.refl (fun _ => False) w).alloc (.cells #[.pointer none] 48)
  have HS := Lib.hid hs; clear hs
  go_enter Tryd.func14, Tryd.ntmps14
  go_wp2_with fail
  go_ret
  exact ⟨rfl, HS.out⟩

theorem class_fault {w : World} {p : Nat} {wh : ByteArray} {err pan : Value} (h : w.heap[p]? = some (faultObj wh err pan)) (hk : FaultOk err pan) (hg : Handle w) :
    Calls Tryd.prog 30 #[faultV p] w fun e w' => e = .returned (.int .i64 50) ∧ Same (fun _ => False) w w' := by
  have hs1 := (Same.refl (fun _ => False) w).alloc (.cells #[.pointer none] 130)
  have hg1 := hg.alloc (.cells #[.pointer none] 130)
  have h1 := hs1.obj h id
  have HTW := Lib.hid (tw_as h1 hk hg1 ⟨w.heap.size, 0, none⟩)
  have HG1 := Lib.hid hg1; have HS1 := Lib.hid hs1
  clear hs1 hg1 h1 h hg
  go_enter Tryd.func30, Tryd.ntmps30
  go_wp2_with fail
  refine HTW.out.mono ?_
  rintro e w1 ⟨rfl, hs⟩
  have hs2 := (HS1.out.trans hs (fun _ _ h => h)).alloc (.cells #[.pointer none] 48)
  have hg2 := (HG1.out.same hs id).alloc (.cells #[.pointer none] 48)
  have hsz := (HS1.out.trans hs (fun _ _ h => h)).size
  have HF := Lib.hid (fa_as p w1.heap.size hg2 (One.new w1 (.pointer none) 48))
  have HS2 := Lib.hid hs2
  clear hs hs2 hg2 HTW HG1 HS1
  go_wp2_with fail
  refine HF.out.mono ?_
  rintro e w2 ⟨rfl, hs, ho⟩
  have hs3 := HS2.out.trans hs (fun k hk he => by omega)
  have hc := ho.cell
  have HS3 := Lib.hid hs3
  clear hs hs3 ho HF HS2
  go_wp2_with fail
  go_ret
  exact ⟨rfl, HS3.out⟩

theorem where_fault {w : World} {p : Nat} {wh : ByteArray} {err pan : Value} (h : w.heap[p]? = some (faultObj wh err pan)) (hk : FaultOk err pan) (hg : Handle w) :
    Calls Tryd.prog 31 #[faultV p] w fun e w' => e = .returned (.string wh) ∧ Same (fun _ => False) w w' := by
  have hs1 := (Same.refl (fun _ => False) w).alloc (.cells #[.pointer none] 130)
  have hg1 := hg.alloc (.cells #[.pointer none] 130)
  have h1 := hs1.obj h id
  have HTW := Lib.hid (tw_as h1 hk hg1 ⟨w.heap.size, 0, none⟩)
  have HG1 := Lib.hid hg1; have HS1 := Lib.hid hs1; have HH := Lib.hid h
  clear hs1 hg1 h1 h hg
  go_enter Tryd.func31, Tryd.ntmps31
  go_wp2_with fail
  refine HTW.out.mono ?_
  rintro e w1 ⟨rfl, hs⟩
  have hs2 := (HS1.out.trans hs (fun _ _ h => h)).alloc (.cells #[.pointer none] 48)
  have hg2 := (HG1.out.same hs id).alloc (.cells #[.pointer none] 48)
  have hsz := (HS1.out.trans hs (fun _ _ h => h)).size
  have HF := Lib.hid (fa_as p w1.heap.size hg2 (One.new w1 (.pointer none) 48))
  have HS2 := Lib.hid hs2
  clear hs hs2 hg2 HTW HG1 HS1
  go_wp2_with fail
  refine HF.out.mono ?_
  rintro e w2 ⟨rfl, hs, ho⟩
  have hs3 := HS2.out.trans hs (fun k hk he => by omega)
  have hc := ho.cell
  obtain ⟨c0, c1, c2⟩ := fault_cells (hs3.obj HH.out id)
  have HS3 := Lib.hid hs3
  clear hs hs3 ho HF HS2
  go_wp2_with fail
  go_ret
  exact ⟨rfl, HS3.out⟩

theorem int_noMark (n : Int) (w : World) : (Instr.typeAssert (.iface 3 (.int .i64 n)) 20 41 true).run Tryd.prog w = .ok (.tuple #[.pointer none, .bool false]) w := by kernel_rfl
theorem int_int (n : Int) (w : World) : (Instr.typeAssert (.iface 3 (.int .i64 n)) 20 3 true).run Tryd.prog w = .ok (.tuple #[.int .i64 n, .bool true]) w := by kernel_rfl

set_option maxHeartbeats 1000000 in
/-- Struck of a Fault that bears a panicked int. -/
theorem struck_int {w : World} {p : Nat} {wh : ByteArray} {n : Int} (h : w.heap[p]? = some (faultObj wh .nilIface (.iface 3 (.int .i64 n)))) (hg : Handle w) :
    Calls Tryd.prog 14 #[faultV p] w fun e w' => e = .returned (.int .i64 n) ∧ Same (fun _ => False) w w' := by
  have hs1 := (Same.refl (fun _ => False) w).alloc (.cells #[.pointer none] 48)
  have hg1 := hg.alloc (.cells #[.pointer none] 48)
  have HF := Lib.hid (fa_as p w.heap.size hg1 (One.new w (.pointer none) 48))
  have HS1 := Lib.hid hs1; have HH := Lib.hid h
  have tm := int_noMark n
  have ti := int_int n
  clear hs1 hg1 h hg
  go_enter Tryd.func14, Tryd.ntmps14
  go_wp2_with fail
  refine HF.out.mono ?_
  rintro e w2 ⟨rfl, hs, ho⟩
  have hs3 := (HS1.out.trans hs (fun k hk he => by omega)).alloc (.cells #[.pointer none] 41)
  have ho2 := ho.alloc (.cells #[.pointer none] 41)
  have hc := ho2.cell
  have hc0 := ho.cell
  have hol := ho.lt
  obtain ⟨c0, c1, c2⟩ := fault_cells (hs3.obj HH.out id)
  have HS3 := Lib.hid hs3
  clear hs hs3 ho HF HS1 ho2
  go_wp2_with fail
  go_ret
  exact ⟨rfl, HS3.out⟩

end Go.Proofs.YtcbapmkipcffgaaDoor
