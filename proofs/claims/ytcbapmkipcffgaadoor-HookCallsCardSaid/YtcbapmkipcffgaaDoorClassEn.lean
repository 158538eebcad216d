/-
  rialtohelp.Class of an Errno. Conditions: none.
-/
import Derived.Test.YtcbapmkipcffgaaDoorErrsTw
import Derived.Test.YtcbapmkipcffgaaDoorErrsFa
import Derived.Test.YtcbapmkipcffgaaDoorErrsEn
namespace Go.Proofs.YtcbapmkipcffgaaDoor
open Go.RowKit Go.Extern.Stop Go.Stop Go.Extern Go.Lib

abbrev twoW (w : World) (TT : TypeId) (t : Addr) : World := (w.alloc (.cells #[.pointer (some t)] TT)).alloc (.cells #[.pointer (some ⟨3, TT, none⟩), .pointer (some ⟨w.heap.size, 0, none⟩), .int .u64 150] 119)

theorem tw_as_en {w : World} (n : Int) (hg : Handle w) (t : Addr) :
    Calls Tryd.prog 23 #[.iface 46 (.int .i64 n), .iface 131 (.pointer (some t))] w fun e w' => e = .returned (.bool false) ∧ Same (fun _ => False) w w' := by
  have hs := ((Same.refl (fun _ => False) w).alloc (.cells #[.pointer (some t)] 131)).alloc (.cells #[.pointer (some ⟨3, 131, none⟩), .pointer (some ⟨w.heap.size, 0, none⟩), .int .u64 150] 119)
  refine (tw_head _ _ t w hg (Q := fun b w' => b = false ∧ Same (fun _ => False) w w') ((tw_miss_en _ _ _ _).mono fun e w' ⟨b, e1, e2, e3⟩ => ⟨b, e1, e2, hs.trans e3 (fun _ _ h => h)⟩)).mono ?_
  rintro e w' ⟨b, rfl, rfl, h⟩
  exact ⟨rfl, h⟩

theorem fa_as_en {w : World} (n : Int) (hg : Handle w) (t : Addr) :
    Calls Tryd.prog 23 #[.iface 46 (.int .i64 n), .iface 50 (.pointer (some t))] w fun e w' => e = .returned (.bool false) ∧ Same (fun _ => False) w w' := by
  have hs := ((Same.refl (fun _ => False) w).alloc (.cells #[.pointer (some t)] 50)).alloc (.cells #[.pointer (some ⟨3, 50, none⟩), .pointer (some ⟨w.heap.size, 0, none⟩), .int .u64 150] 119)
  refine (fa_head _ _ t w hg (Q := fun b w' => b = false ∧ Same (fun _ => False) w w') ((fa_miss_en _ _ _ _).mono fun e w' ⟨b, e1, e2, e3⟩ => ⟨b, e1, e2, hs.trans e3 (fun _ _ h => h)⟩)).mono ?_
  rintro e w' ⟨b, rfl, rfl, h⟩
  exact ⟨rfl, h⟩

theorem en_as_en {w : World} (n : Int) (tb : Nat) {old : Value} (hg : Handle w) (ht : One w tb old 46) :
    Calls Tryd.prog 23 #[.iface 46 (.int .i64 n), .iface 132 (.pointer (some ⟨tb, 0, none⟩))] w fun e w' => e = .returned (.bool true) ∧ Same (fun k => k = tb) w w' ∧ One w' tb (.int .i64 n) 46 := by
  have hs := ((Same.refl (fun k => k = tb) w).alloc (.cells #[.pointer (some ⟨tb, 0, none⟩)] 132)).alloc (.cells #[.pointer (some ⟨3, 132, none⟩), .pointer (some ⟨w.heap.size, 0, none⟩), .int .u64 150] 119)
  have ht2 := (ht.alloc (.cells #[.pointer (some ⟨tb, 0, none⟩)] 132)).alloc (.cells #[.pointer (some ⟨3, 132, none⟩), .pointer (some ⟨w.heap.size, 0, none⟩), .int .u64 150] 119)
  have ha := (One.new w (.pointer (some ⟨tb, 0, none⟩)) 132).alloc (.cells #[.pointer (some ⟨3, 132, none⟩), .pointer (some ⟨w.heap.size, 0, none⟩), .int .u64 150] 119)
  refine (en_head _ _ ⟨tb, 0, none⟩ w hg (Q := fun b w' => b = true ∧ Same (fun k => k = tb) w w' ∧ One w' tb (.int .i64 n) 46) ?_).mono ?_
  · exact (en_hit n _ _ tb old _ ha ht2).mono fun e w' ⟨b, e1, e2, e3, e4⟩ => ⟨b, e1, e2, hs.trans e3 (fun _ _ h => h), e4⟩
  · rintro e w' ⟨b, rfl, rfl, h⟩
    exact ⟨rfl, h⟩

theorem class_errno {w : World} (n : Int) (hg : Handle w) :
    Calls Tryd.prog 30 #[.iface 46 (.int .i64 n)] w fun e w' => e = .returned (.int .i64 n) ∧ Same (fun _ => False) w w' := by
  have hs1 := (Same.refl (fun _ => False) w).alloc (.cells #[.pointer none] 130)
  have hg1 := hg.alloc (.cells #[.pointer none] 130)
  have HTW := Lib.hid (tw_as_en n hg1 ⟨w.heap.size, 0, none⟩)
  have HG1 := Lib.hid hg1; have HS1 := Lib.hid hs1
  clear hs1 hg1 hg
  go_enter Tryd.func30, Tryd.ntmps30
  go_wp2_with fail
  refine HTW.out.mono ?_
  rintro e w1 ⟨rfl, hs⟩
  have hs2 := (HS1.out.trans hs (fun _ _ h => h)).alloc (.cells #[.pointer none] 48)
  have hg2 := (HG1.out.same hs id).alloc (.cells #[.pointer none] 48)
  have HF := Lib.hid (fa_as_en n hg2 ⟨w1.heap.size, 0, none⟩)
  have HS2 := Lib.hid hs2; have HG2 := Lib.hid hg2
  clear hs hs2 hg2 HTW HG1 HS1
  go_wp2_with fail
  refine HF.out.mono ?_
  rintro e w2 ⟨rfl, hs⟩
  have hs3 := (HS2.out.trans hs (fun _ _ h => h)).alloc (.cells #[.int .i64 0] 46)
  have hg3 := (HG2.out.same hs id).alloc (.cells #[.int .i64 0] 46)
  have hsz := (HS2.out.trans hs (fun _ _ h => h)).size
  have HE := Lib.hid (en_as_en n w2.heap.size hg3 (One.new w2 (.int .i64 0) 46))
  have HS3 := Lib.hid hs3
  clear hs hs3 hg3 HF HS2 HG2
  go_wp2_with fail
  refine HE.out.mono ?_
  rintro e w3 ⟨rfl, hs, ho⟩
  have hs4 := HS3.out.trans hs (fun k hk he => by omega)
  have hc := ho.cell
  have HS4 := Lib.hid hs4
  clear hs hs4 ho HE HS3
  go_wp2_with fail
  go_ret
  exact ⟨rfl, HS4.out⟩

end Go.Proofs.YtcbapmkipcffgaaDoor
