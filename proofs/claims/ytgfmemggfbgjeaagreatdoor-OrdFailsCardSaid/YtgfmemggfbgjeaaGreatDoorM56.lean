/-
  errors.As at a variable of type *ordidx.failed: up to errors.as; hit. Conditions: none. (Printed by wip/tools/errs_gen.py.) ordidx: what a search asks, and what it answers, where the comparator may fail. Conditions: rows of few values; the variable that errors.As reads holds the type of error. ordidx: what search, Find, Rank answer, where the comparator may fail. Conditions: few entries; rows of few values; the variable that errors.As reads holds the type of error.
-/
import Derived.Test.YtgfmemggfbgjeaaGreatDoorM29
import Derived.Test.YtgfmemggfbgjeaaGreatDoorM36
import Derived.Test.YtgfmemggfbgjeaaGreatDoorM37
namespace Go.Proofs.YtgfmemggfbgjeaaGreatDoor
open Go.RowKit Go.Extern.Stop Go.Stop Go.Extern Go.Lib

/-! ### target fd -/
theorem fd_valueOf (t : Addr) (w : World) : (ReflectliteValue.unpack (.iface 173 (.pointer (some t)))).run Tryz.prog w
    = .ok (.agg #[.pointer (some ⟨2, 173, none⟩), .pointer (some ⟨w.heap.size, 0, none⟩), .int .u64 150]) (w.alloc (.cells #[.pointer (some t)] 173)) := by kernel_rfl
theorem fd_type (a : Addr) (w : World) : (ReflectliteValue.methodAny (ReflectliteValue.valueError "reflectlite.Value.Type" 0) (fun t _ _ _ => ReflectliteType.toType t) #[.agg #[.pointer (some ⟨2, 173, none⟩), .pointer (some a), .int .u64 150]]).run Tryz.prog w
    = .ok (.iface 158 (.agg #[.pointer (some ⟨2, 173, none⟩)])) w := by kernel_rfl
theorem fd_kindTT (w : World) : ((ReflectliteType.abiMethod fun t => (fun a : Nat => Value.int IntKind.u8 (a : Int)) <$> Rtype.kind t) #[.pointer (some ⟨2, 173, none⟩)]).run Tryz.prog w = .ok (.int .u8 22) w := by kernel_rfl
theorem fd_kindT (w : World) : ((ReflectliteType.abiMethod fun t => (fun a : Nat => Value.int IntKind.u8 (a : Int)) <$> Rtype.kind t) #[.pointer (some ⟨2, 135, none⟩)]).run Tryz.prog w = .ok (.int .u8 22) w := by kernel_rfl
theorem fd_parts (a : Addr) (w : World) : (ReflectliteValue.parts (.agg #[.pointer (some ⟨2, 173, none⟩), .pointer (some a), .int .u64 150])).run Tryz.prog w = .ok (some (173, a, 150)) w := by kernel_rfl
theorem fd_isNil (a p : Addr) (W : World) (ha : W.cell? a = some (.pointer (some p))) :
    (ReflectliteValue.method (ReflectliteValue.valueError "reflectlite.Value.IsNil" 0) ReflectliteValue.isNil #[.agg #[.pointer (some ⟨2, 173, none⟩), .pointer (some a), .int .u64 150]]).run Tryz.prog W = .ok (.bool false) W := by
  rw [rlm]
  simp only [Sem.run_bind, fd_parts, Result.andThen]
  simp [ReflectliteValue.isNil, loadVar, isAgg, underlying, Tryz.underlying173, ha, Result.andThen]
theorem fd_elem (w : World) : (ReflectliteType.method ReflectliteType.elem #[.agg #[.pointer (some ⟨2, 173, none⟩)]]).run Tryz.prog w = .ok (.iface 158 (.agg #[.pointer (some ⟨2, 135, none⟩)])) w := by kernel_rfl
theorem fd_implements (w : World) : (ReflectliteType.relation "Implements" ReflectliteType.implements_ #[.agg #[.pointer (some ⟨2, 135, none⟩)], .iface 158 (.agg #[.pointer (some ⟨2, 41, none⟩)])]).run Tryz.prog w = .ok (.bool true) w := by kernel_rfl
theorem fd_typeOf (v : Value) (w : World) : (ReflectliteType.typeOf #[.iface 135 v]).run Tryz.prog w = .ok (.iface 158 (.agg #[.pointer (some ⟨2, 135, none⟩)])) w := by kernel_rfl
theorem fd_valueOfT (pe : Addr) (w : World) : (ReflectliteValue.unpack (.iface 135 (.pointer (some pe)))).run Tryz.prog w
    = .ok (.agg #[.pointer (some ⟨2, 135, none⟩), .pointer (some ⟨w.heap.size, 0, none⟩), .int .u64 150]) (w.alloc (.cells #[.pointer (some pe)] 135)) := by kernel_rfl
theorem fd_elemOf (w : World) : (Rtype.elem? 173).run Tryz.prog w = .ok (some 135) w := by kernel_rfl
theorem fd_mk (p : Addr) (w : World) : (ReflectliteValue.mk 135 p ReflectliteValue.flagAddr).run Tryz.prog w = .ok (.agg #[.pointer (some ⟨2, 135, none⟩), .pointer (some p), .int .u64 406]) w := by kernel_rfl
theorem fd_elemV (a p : Addr) (W : World) (ha : W.cell? a = some (.pointer (some p))) :
    (ReflectliteValue.method (ReflectliteValue.valueError "reflectlite.Value.Elem" 0) ReflectliteValue.elem #[.agg #[.pointer (some ⟨2, 173, none⟩), .pointer (some a), .int .u64 150]]).run Tryz.prog W
      = .ok (.agg #[.pointer (some ⟨2, 135, none⟩), .pointer (some p), .int .u64 406]) W := by
  rw [rlm]
  simp only [Sem.run_bind, fd_parts, Result.andThen]
  simp [ReflectliteValue.elem, loadVar, isAgg, underlying, Tryz.underlying173, ha, Result.andThen, fd_elemOf, fd_mk]
theorem fd_parts_a (a : Addr) (w : World) : (ReflectliteValue.parts (.agg #[.pointer (some ⟨2, 135, none⟩), .pointer (some a), .int .u64 406])).run Tryz.prog w = .ok (some (135, a, 406)) w := by kernel_rfl
theorem fd_parts_b (a : Addr) (w : World) : (ReflectliteValue.parts (.agg #[.pointer (some ⟨2, 135, none⟩), .pointer (some a), .int .u64 150])).run Tryz.prog w = .ok (some (135, a, 150)) w := by kernel_rfl
theorem fd_direct (w : World) : (Rtype.directlyAssignable 135 135).run Tryz.prog w = .ok true w := by kernel_rfl
theorem fd_set (ta b : Addr) (pe : Addr) (old : Value) (W : World) (hb : W.cell? b = some (.pointer (some pe))) (ht : W.cell? ta = some old) (hf : W.frozen? ta = false) :
    (ReflectliteValue.set #[.agg #[.pointer (some ⟨2, 135, none⟩), .pointer (some ta), .int .u64 406], .agg #[.pointer (some ⟨2, 135, none⟩), .pointer (some b), .int .u64 150]]).run Tryz.prog W
      = .ok (.tuple #[]) (W.setCell ta (.pointer (some pe))) := by
  rw [rls]
  simp only [Sem.run_bind, fd_parts_a, fd_parts_b, Result.andThen]
  simp [ReflectliteValue.flagAddr, loadVar, isAgg, underlying, Tryz.underlying135, hb, Result.andThen, fd_direct, storeVar, Value.cells, storeCells, Addr.add]
  rw [run_store Tryz.prog W ta _ _ (by rfl)]
  simp [ht, hf]

/-- The Value of the target, whose own copy lies at a. -/
abbrev fd_val (a : Nat) : Value := .agg #[.pointer (some ⟨2, 173, none⟩), .pointer (some ⟨a, 0, none⟩), .int .u64 150]
abbrev fd_typ : Value := .iface 158 (.agg #[.pointer (some ⟨2, 135, none⟩)])

set_option maxHeartbeats 4000000 in
/-- errors.As up to errors.as. -/
theorem fd_head (D : TypeId) (v : Value) (t : Addr) (w : World) (hg : Handle w) {Q : Bool → World → Prop}
    (h : Calls Tryz.prog 64 #[.iface D v, .iface 173 (.pointer (some t)), fd_val w.heap.size, fd_typ] ((w.alloc (.cells #[.pointer (some t)] 173)).alloc (.cells #[.pointer (some ⟨2, 173, none⟩), .pointer (some ⟨w.heap.size, 0, none⟩), .int .u64 150] 125))
      fun e w' => ∃ b, e = .returned (.bool b) ∧ Q b w') :
    Calls Tryz.prog 37 #[.iface D v, .iface 173 (.pointer (some t))] w fun e w' => ∃ b, e = .returned (.bool b) ∧ Q b w' := by
  have x1 := @run_callFunc_extern Tryz.prog 61 _ (fun args => ReflectliteValue.unpack (args.getD 0 (.tuple #[]))) Tryz.func61 (by kernel_rfl) (by kernel_rfl) (by kernel_rfl) (by kernel_rfl)
  have x2 := @run_callFunc_extern Tryz.prog 62 _ (ReflectliteValue.methodAny (ReflectliteValue.valueError "reflectlite.Value.Type" 0) (fun t _ _ _ => ReflectliteType.toType t)) Tryz.func62 (by kernel_rfl) (by kernel_rfl) (by kernel_rfl) (by kernel_rfl)
  have x3 := @run_callFunc_extern Tryz.prog 63 _ (ReflectliteValue.method (ReflectliteValue.valueError "reflectlite.Value.IsNil" 0) ReflectliteValue.isNil) Tryz.func63 (by kernel_rfl) (by kernel_rfl) (by kernel_rfl) (by kernel_rfl)
  have x4 := @run_callFunc_extern Tryz.prog 128 _ (ReflectliteType.abiMethod fun t => do pure (.int .u8 (← Rtype.kind t))) Tryz.func128 (by kernel_rfl) (by kernel_rfl) (by kernel_rfl) (by kernel_rfl)
  have x5 := @run_callFunc_extern Tryz.prog 145 _ (ReflectliteType.method ReflectliteType.elem) Tryz.func145 (by kernel_rfl) (by kernel_rfl) (by kernel_rfl) (by kernel_rfl)
  have x6 := @run_callFunc_extern Tryz.prog 146 _ (ReflectliteType.relation "Implements" ReflectliteType.implements_) Tryz.func146 (by kernel_rfl) (by kernel_rfl) (by kernel_rfl) (by kernel_rfl)
  have f6 := fd_valueOf
  have f7 := fd_type
  have mK := rl_mK
  have mE := rl_mE
  have mI := rl_mI
  have k27 := fd_kindTT
  have k25 := fd_kindT
  have e27 := fd_elem
  have i25 := fd_implements
  have n8 := fd_isNil ⟨w.heap.size, 0, none⟩ t ((w.alloc (.cells #[.pointer (some t)] 173)).alloc (.cells #[.pointer (some ⟨2, 173, none⟩), .pointer (some ⟨w.heap.size, 0, none⟩), .int .u64 150] 125)) (by simp)
  have hg2 := (hg.alloc (.cells #[.pointer (some t)] 173)).alloc (.cells #[.pointer (some ⟨2, 173, none⟩), .pointer (some ⟨w.heap.size, 0, none⟩), .int .u64 150] 125)
  unfold Handle at hg hg2
  have HC := Lib.hid h; clear h
  go_enter Tryz.func37, Tryz.ntmps37
  go_wp2_with fail
  refine HC.out.mono ?_
  rintro e w' ⟨b, rfl, hq⟩
  have HQ := Lib.hid hq; clear hq
  go_wp2_with fail
  go_ret
  exact ⟨b, rfl, HQ.out⟩

set_option maxHeartbeats 4000000 in
/-- errors.as: the error's own type is the target's. -/
theorem fd_hit (pe : Addr) (tgt : Value) (a tb : Nat) (old : Value) (w : World) (ha : One w a (.pointer (some ⟨tb, 0, none⟩)) 173) (ht : One w tb old 135) :
    Calls Tryz.prog 64 #[.iface 135 (.pointer (some pe)), tgt, fd_val a, fd_typ] w fun e w' => ∃ b, e = .returned (.bool b) ∧ (b = true ∧ Same (fun k => k = tb) w w' ∧ One w' tb (.pointer (some pe)) 135) := by
  have x1 := @run_callFunc_extern Tryz.prog 61 _ (fun args => ReflectliteValue.unpack (args.getD 0 (.tuple #[]))) Tryz.func61 (by kernel_rfl) (by kernel_rfl) (by kernel_rfl) (by kernel_rfl)
  have x2 := @run_callFunc_extern Tryz.prog 83 _ ReflectliteType.typeOf Tryz.func83 (by kernel_rfl) (by kernel_rfl) (by kernel_rfl) (by kernel_rfl)
  have x3 := @run_callFunc_extern Tryz.prog 143 _ (ReflectliteType.relation "AssignableTo" ReflectliteType.assignableTo) Tryz.func143 (by kernel_rfl) (by kernel_rfl) (by kernel_rfl) (by kernel_rfl)
  have x4 := @run_callFunc_extern Tryz.prog 84 _ (ReflectliteValue.method (ReflectliteValue.valueError "reflectlite.Value.Elem" 0) ReflectliteValue.elem) Tryz.func84 (by kernel_rfl) (by kernel_rfl) (by kernel_rfl) (by kernel_rfl)
  have x5 := @run_callFunc_extern Tryz.prog 85 _ ReflectliteValue.set Tryz.func85 (by kernel_rfl) (by kernel_rfl) (by kernel_rfl) (by kernel_rfl)
  have tO := fd_typeOf
  have mA := rl_mA
  have a25 : ∀ w : World, (ReflectliteType.relation "AssignableTo" ReflectliteType.assignableTo #[.agg #[.pointer (some ⟨2, 135, none⟩)], .iface 158 (.agg #[.pointer (some ⟨2, 135, none⟩)])]).run Tryz.prog w = .ok (.bool true) w := fun w => by kernel_rfl
  have v25 := fd_valueOfT
  have hal := ha.lt
  have htl := ht.lt
  have ha1 := ha.alloc (.cells #[.pointer (some ⟨2, 173, none⟩), .pointer (some ⟨a, 0, none⟩), .int .u64 150] 125)
  have ht2 := (ht.alloc (.cells #[.pointer (some ⟨2, 173, none⟩), .pointer (some ⟨a, 0, none⟩), .int .u64 150] 125)).alloc (.cells #[.pointer (some pe)] 135)
  have el := fd_elemV ⟨a, 0, none⟩ ⟨tb, 0, none⟩ _ ha1.cell
  have hs := (((Same.refl (fun k => k = tb) w).setCell (p := ⟨tb, 0, none⟩) (fun _ => rfl) (.pointer (some pe))).alloc (.cells #[.pointer (some ⟨2, 173, none⟩), .pointer (some ⟨a, 0, none⟩), .int .u64 150] 125)).alloc (.cells #[.pointer (some pe)] 135)
  have hn := ((ht.setCell (.pointer (some pe))).alloc (.cells #[.pointer (some ⟨2, 173, none⟩), .pointer (some ⟨a, 0, none⟩), .int .u64 150] 125)).alloc (.cells #[.pointer (some pe)] 135)
  have st := fd_set ⟨tb, 0, none⟩ ⟨w.heap.size + 1, 0, none⟩ pe old _ (by
    simp) ht2.cell ht2.free
  have HN := Lib.hid hn; have HS := Lib.hid hs
  clear ht2 hs ha1 ha ht hn
  go_enter Tryz.func64, Tryz.ntmps64
  go_wp2
  refine wp_loop_rounds 1 ?_
  rw [rounds_succ]
  go_wp2
  go_ret
  exact ⟨true, rfl, rfl, HS.out, HN.out⟩

end Go.Proofs.YtgfmemggfbgjeaaGreatDoor

namespace Go.Proofs.YtgfmemggfbgjeaaGreatDoor
open Go.RowKit Go.Extern.Stop Go.Stop Go.Extern Go.Lib
set_option maxRecDepth 1000000

abbrev failI (q : Nat) : Value := .iface 135 (.pointer (some ⟨q, 0, none⟩))
abbrev failObj (p : Nat) : Obj := .cells #[markI p] 137

theorem fd_as_fd {w : World} (pe : Addr) (tb : Nat) {old : Value} (hg : Handle w) (ht : One w tb old 135) :
    Calls Tryz.prog 37 #[.iface 135 (.pointer (some pe)), .iface 173 (.pointer (some ⟨tb, 0, none⟩))] w fun e w' => e = .returned (.bool true) ∧ Same (fun k => k = tb) w w' ∧ One w' tb (.pointer (some pe)) 135 := by
  have hs := ((Same.refl (fun k => k = tb) w).alloc (.cells #[.pointer (some ⟨tb, 0, none⟩)] 173)).alloc (.cells #[.pointer (some ⟨2, 173, none⟩), .pointer (some ⟨w.heap.size, 0, none⟩), .int .u64 150] 125)
  have ht2 := (ht.alloc (.cells #[.pointer (some ⟨tb, 0, none⟩)] 173)).alloc (.cells #[.pointer (some ⟨2, 173, none⟩), .pointer (some ⟨w.heap.size, 0, none⟩), .int .u64 150] 125)
  have ha := (One.new w (.pointer (some ⟨tb, 0, none⟩)) 173).alloc (.cells #[.pointer (some ⟨2, 173, none⟩), .pointer (some ⟨w.heap.size, 0, none⟩), .int .u64 150] 125)
  refine (fd_head _ _ ⟨tb, 0, none⟩ w hg (Q := fun b w' => b = true ∧ Same (fun k => k = tb) w w' ∧ One w' tb (.pointer (some pe)) 135) ?_).mono ?_
  · exact (fd_hit pe _ _ tb old _ ha ht2).mono fun e w' ⟨b, e1, e2, e3, e4⟩ => ⟨b, e1, e2, hs.trans e3 (fun _ _ h => h), e4⟩
  · rintro e w' ⟨b, rfl, rfl, h⟩
    exact ⟨rfl, h⟩

theorem told_failed {w : World} {q p : Nat} (hg : Handle w) (hq : w.heap[q]? = some (failObj p)) : Calls Tryz.prog 67 #[failI q] w fun e w' => e = .returned (markI p) ∧ Same (fun _ => False) w w' := by
  have hs1 := (Same.refl (fun _ => False) w).alloc (.cells #[.pointer none] 135)
  have hg1 := hg.alloc (.cells #[.pointer none] 135)
  have HFD := Lib.hid (fd_as_fd ⟨q, 0, none⟩ w.heap.size hg1 (One.new w (.pointer none) 135))
  have HS1 := Lib.hid hs1; have HQ := Lib.hid hq
  clear hs1 hg1 hg hq
  go_enter Tryz.func67, Tryz.ntmps67
  go_wp2_with fail
  refine HFD.out.mono ?_
  rintro e w1 ⟨rfl, hs, ho⟩
  have hql : q < w.heap.size := lt_of_block HQ.out
  have hs4 := HS1.out.trans hs (fun k hk he => by omega)
  have hc := ho.cell
  have hb4 : w1.heap[q]? = some (failObj p) := hs4.obj HQ.out (fun h => h)
  have hb0 : w1.cell? ⟨q, 0, none⟩ = some (markI p) := by simp [World.cell?, hb4]
  have hl := lt_of_block hb4
  have HS4 := Lib.hid hs4
  clear hs hs4 ho HFD HS1 hb4
  go_wp2_with fail
  go_ret
  exact ⟨rfl, HS4.out⟩

theorem handle_far {w w' : World} {mp : Value} {c a h s : Int} (hg : Handle w) (hm : MAt w mp c a h s) (hs : Same (Blk mp) w w') : Handle w' := by
  refine hg.same hs (fun hb => ?_)
  rcases hm with rfl | ⟨m, rfl, hm⟩
  · cases hb
  · have e : m = 0 := by simpa [Blk] using hb
    subst e
    unfold Handle at hg
    simp [World.cell?, hm] at hg

theorem OxAt.kept2 {w w' : World} {P : Nat → Prop} {x t bm bn : Nat} {uq : Bool} {mp : Value} {n a a2 c cc h s : Int} {L : List En} (hO : OxAt w P x t bm bn uq mp n a L c) (hm : MAt w mp cc a2 h s) (hs : Same (Blk mp) w w') : OxAt w' P x t bm bn uq mp n a L c :=
  ⟨hs.obj hO.idx (blk_idx hm hO.idx), hO.tree.keep hs hO.pm, hs.one hO.bm (hm.ne_one hO.bm), hs.one hO.bn (hm.ne_one hO.bn), fun e he => (hO.keys e he).kept hs (hO.keys e he).mt, hO.sm, hO.calm, hO.pm, hO.kt⟩

theorem AskIn.kept2 {w w' : World} {pb px pk ps x t bm bn g : Nat} {uq : Bool} {cap : Array Value} {v mp : Value} {K : List V} {d : Int → Int → Bool} {n a a2 c h s : Int} (hA : AskIn w pb px pk ps x t bm bn g uq cap v mp K d n a) (hm : MAt w mp c a2 h s) (hs : Same (Blk mp) w w') : AskIn w' pb px pk ps x t bm bn g uq cap v mp K d n a :=
  ⟨hs.one hA.hb (hm.ne_one hA.hb), hs.one hA.hx (hm.ne_one hA.hx), hs.one hA.hk (hm.ne_one hA.hk), hs.one hA.hs (hm.ne_one hA.hs), hs.obj hA.idx (blk_idx hm hA.idx), hs.one hA.bm (hm.ne_one hA.bm), hs.one hA.bn (hm.ne_one hA.bn), hA.key.kept hs hA.key.mt, fun w2 c i h2 => hA.so w2 c i (hs.trans h2 (fun _ _ h => h)), hA.eg, hA.sm, hA.calm⟩

theorem cmp_no {w : World} {x y mp : Value} {A B : List V} {n c a h s : Int} {bm bn : Nat} (hx : KeyOk w mp x A) (hy : KeyOk w mp y B) (hbm : One w bm mp 49) (hbn : One w bn (.int .i64 n) 3) (hm : MAt w mp c a h s) (hsm : MSmall a) (hc : ¬ Strikes mp c a) :
    Calls Tryz.prog 55 #[x, y, .pointer (some ⟨bm, 0, none⟩), .pointer (some ⟨bn, 0, none⟩)] w fun e w' => e = .returned (.tuple #[.int .i64 (7 * cmpR n A B), .nilIface]) ∧ Same (Blk mp) w w' ∧ MAt w' mp (IntKind.i64.wrap (c + 1)) a h s := by
  refine (cmpr_any hx.rd hy.rd hx.cap hy.cap hx.mt hy.mt hx.ok hy.ok hx.small hy.small hx.few hy.few hbm hbn hm hsm).mono ?_
  rintro e w' ⟨hs, hend⟩
  rcases hend with ⟨_, rfl, hm'⟩ | ⟨hst, _⟩
  · exact ⟨rfl, hs, hm'⟩
  · exact absurd hst hc

/-- What a strike leaves. -/
def Struck (w : World) (mp : Value) (c a h s : Int) (p : Nat) (w' : World) : Prop :=
  Same (Blk mp) w w' ∧ MAt w' mp (IntKind.i64.wrap (c + 1)) a h (IntKind.i64.wrap (s + 1)) ∧ w.heap.size ≤ p ∧ w'.heap[p]? = some (markObj (1000 + a))

theorem cmp_yes {w : World} {x y mp : Value} {A B : List V} {n c a h s : Int} {bm bn : Nat} (hx : KeyOk w mp x A) (hy : KeyOk w mp y B) (hbm : One w bm mp 49) (hbn : One w bn (.int .i64 n) 3) (hm : MAt w mp c a h s) (hsm : MSmall a) (hc : Strikes mp c a) :
    Calls Tryz.prog 55 #[x, y, .pointer (some ⟨bm, 0, none⟩), .pointer (some ⟨bn, 0, none⟩)] w fun e w' => ∃ p, e = .returned (.tuple #[.int .i64 0, markI p]) ∧ Struck w mp c a h s p w' := by
  refine (cmpr_any hx.rd hy.rd hx.cap hy.cap hx.mt hy.mt hx.ok hy.ok hx.small hy.small hx.few hy.few hbm hbn hm hsm).mono ?_
  rintro e w' ⟨hs, hend⟩
  rcases hend with ⟨h0, _⟩ | ⟨_, p, hp, rfl, hm', hpo⟩
  · exact absurd hc h0
  · exact ⟨p, rfl, hs, hm', hp, hpo⟩

set_option maxHeartbeats 8000000 in
theorem ask_no {w0 : World} {pb px pk ps x t bm bn g : Nat} {uq : Bool} {cap : Array Value} {v mp : Value} {K : List V} {d : Int → Int → Bool} {n a c h s : Int} {e : En} (hA0 : AskIn w0 pb px pk ps x t bm bn g uq cap v mp K d n 0) (hm0 : MAt w0 mp c a h s) (hsm : MSmall a) (hst : ¬ Strikes mp c a) (he0 : KeyOk w0 mp e.key e.kv) :
    Calls Tryz.prog 66 #[e.agg, .pointer (some ⟨pb, 0, none⟩), .pointer (some ⟨px, 0, none⟩), .pointer (some ⟨pk, 0, none⟩), .pointer (some ⟨ps, 0, none⟩)] w0 fun r w' => r = .returned (.bool (d (7 * cmpR n e.kv K) e.id)) ∧ Same (Blk mp) w0 w' ∧ MAt w' mp (IntKind.i64.wrap (c + 1)) a h s := by
  obtain ⟨w, hw⟩ : ∃ w, w = w0.alloc (entObj e) := ⟨_, rfl⟩
  have hsb : Same (fun _ => False) w0 w := by rw [hw]; exact (Same.refl _ w0).alloc _
  have hsb' : Same (Blk mp) w0 w := hsb.weaken (fun _ _ h => h.elim)
  have hA := hA0.kept2 hm0 hsb'
  have hm : MAt w mp c a h s := hm0.same hsb (fun _ _ => id)
  have he : KeyOk w mp e.key e.kv := he0.kept hsb (fun _ _ => id)
  have heb : w.heap[w0.heap.size]? = some (entObj e) := by rw [hw]; exact heap_alloc_new _ _
  obtain ⟨e0, e1, _, _⟩ := ent_cells heb
  have hel := lt_of_block heb
  have b0 := hA.hb.cell; have b1 := hA.hx.cell; have b2 := hA.hk.cell; have b3 := hA.hs.cell
  obtain ⟨i0, i1, i2, il⟩ := idx_cells hA.idx
  have l0 := lt_of_block hA.hb; have l1 := lt_of_block hA.hx; have l2 := lt_of_block hA.hk; have l3 := lt_of_block hA.hs
  have hdr : Same (fun _ => False) w w.drew := (Same.refl (fun _ => False) w).drew
  have HC := Lib.hid (cmp_no (he.kept hdr (fun _ _ => id)) (hA.key.kept hdr (fun _ _ => id)) (hdr.one hA.bm id) (hdr.one hA.bn id) (hm.same hdr (fun _ _ => id)) hsm hst)
  have HN := Lib.hid (fun (W : World) (h1 : Same (Blk mp) w W) => And.intro (h1.one hA.hs (hm.ne_one hA.hs)) (h1.obj heb (fun hb => by have := hm0.lt hb; omega)))
  have HSO := Lib.hid (fun (W : World) (h1 : Same (Blk mp) w W) => hA.so W (7 * cmpR n e.kv K) e.id h1 (by have := cmpR_range n e.kv K; omega) (by have := cmpR_range n e.kv K; omega))
  have eg := hA.eg
  have eg1 := cmpr_enter
  have HW := Lib.hid hw; have HSB := Lib.hid hsb'
  clear hA0 hm0 he0 hw hsb hsb' hA hm he heb hdr hst
  generalize 7 * cmpR n e.kv K = q at *
  go_enter Tryz.func66, Tryz.ntmps66
  go_upto_region 1 with fail
  rw [← HW.out]
  go_wp2_with fail
  go_region_with (first | (go_at_call 55; refine HC.out.mono ?_; rintro r w1 ⟨rfl, hs1, hm1⟩; have hs1' : Same (Blk mp) w w1 := ((Same.refl (Blk mp) w).drew).trans hs1 (fun _ _ h => h); obtain ⟨j1, j2⟩ := HN.out w1 hs1'; have d3 := j1.cell; have dl := lt_of_block j1; obtain ⟨d4, d5, _, _⟩ := ent_cells j2; have del := lt_of_block j2; have HM1 := Lib.hid hm1; have HS1 := Lib.hid hs1'; have HSO1 := Lib.hid (HSO.out w1 hs1'); clear hs1 hm1 hs1' j1 j2))
  all_goals go_wp2_with fail
  all_goals (
    refine HSO1.out.mono ?_
    rintro r w2 ⟨rfl, hs2⟩
    have HS2 := Lib.hid ((HSB.out.trans HS1.out (fun _ _ h => h)).trans hs2 (fun _ _ h => h.elim)); have HM2 := Lib.hid (HM1.out.same hs2 (fun _ _ => id))
    clear hs2
    go_wp2_with fail
    go_ret
    exact ⟨rfl, HS2.out, HM2.out⟩)

set_option maxHeartbeats 8000000 in
/-- The comparator fails: the variable holds the fault. -/
theorem ask_yes {w0 : World} {pb px pk ps x t bm bn g : Nat} {uq : Bool} {cap : Array Value} {v mp : Value} {K : List V} {d : Int → Int → Bool} {n a c h s : Int} {e : En} (hA0 : AskIn w0 pb px pk ps x t bm bn g uq cap v mp K d n 0) (hm0 : MAt w0 mp c a h s) (hsm : MSmall a) (hst : Strikes mp c a) (he0 : KeyOk w0 mp e.key e.kv) :
    Calls Tryz.prog 66 #[e.agg, .pointer (some ⟨pb, 0, none⟩), .pointer (some ⟨px, 0, none⟩), .pointer (some ⟨pk, 0, none⟩), .pointer (some ⟨ps, 0, none⟩)] w0 fun r w' => r = .returned (.bool true) ∧ Same (fun k => Blk mp k ∨ k = pb) w0 w' ∧ MAt w' mp (IntKind.i64.wrap (c + 1)) a h (IntKind.i64.wrap (s + 1)) ∧ ∃ p q, w0.heap.size ≤ p ∧ w0.heap.size ≤ q ∧ One w' pb (failI q) 41 ∧ w'.heap[q]? = some (failObj p) ∧ w'.heap[p]? = some (markObj (1000 + a)) := by
  obtain ⟨w, hw⟩ : ∃ w, w = w0.alloc (entObj e) := ⟨_, rfl⟩
  have hsb : Same (fun _ => False) w0 w := by rw [hw]; exact (Same.refl _ w0).alloc _
  have hsb' : Same (Blk mp) w0 w := hsb.weaken (fun _ _ h => h.elim)
  have hA := hA0.kept2 hm0 hsb'
  have hm : MAt w mp c a h s := hm0.same hsb (fun _ _ => id)
  have he : KeyOk w mp e.key e.kv := he0.kept hsb (fun _ _ => id)
  have heb : w.heap[w0.heap.size]? = some (entObj e) := by rw [hw]; exact heap_alloc_new _ _
  obtain ⟨e0, e1, _, _⟩ := ent_cells heb
  have hel := lt_of_block heb
  have b0 := hA.hb.cell; have b1 := hA.hx.cell; have b2 := hA.hk.cell
  obtain ⟨i0, i1, i2, il⟩ := idx_cells hA.idx
  have l0 := lt_of_block hA.hb; have l1 := lt_of_block hA.hx; have l2 := lt_of_block hA.hk
  have hdr : Same (fun _ => False) w w.drew := (Same.refl (fun _ => False) w).drew
  have HC := Lib.hid (cmp_yes (he.kept hdr (fun _ _ => id)) (hA.key.kept hdr (fun _ _ => id)) (hdr.one hA.bm id) (hdr.one hA.bn id) (hm.same hdr (fun _ _ => id)) hsm hst)
  have HN := Lib.hid (fun (W : World) (h1 : Same (Blk mp) w W) => h1.one hA.hb (hm.ne_one hA.hb))
  have HPB := Lib.hid (show ¬ Blk mp pb from hm.ne_one hA.hb)
  have HML := Lib.hid (fun k (hk : Blk mp k) => hm0.lt hk)
  have eg1 := cmpr_enter
  have HW := Lib.hid hw; have HSB := Lib.hid hsb'; have HSZ := Lib.hid hsb.size
  clear hA0 hm0 he0 hw hsb hsb' hA hm he heb hdr hst
  go_enter Tryz.func66, Tryz.ntmps66
  go_upto_region 1 with fail
  rw [← HW.out]
  go_wp2_with fail
  go_region_with (first | (go_at_call 55; refine HC.out.mono ?_; rintro r w1 ⟨p, rfl, hs1, hm1, hp1, hpo1⟩; have hs1' : Same (Blk mp) w w1 := ((Same.refl (Blk mp) w).drew).trans hs1 (fun _ _ h => h); have j1 := HN.out w1 hs1'; have d3 := j1.cell; have d4 := j1.free; have dl := lt_of_block j1; have HJ := Lib.hid j1; have HM1 := Lib.hid hm1; have HS1 := Lib.hid hs1'; have HP1 := Lib.hid hp1; have HPO := Lib.hid hpo1; clear hs1 hm1 hs1' hp1 hpo1 j1))
  all_goals go_wp2_with fail
  all_goals (
    go_ret
    have hsz := HS1.out.size
    have e2 : Same (fun k => k = pb) w1 ((w1.setCell ⟨pb, 0, none⟩ (failI w1.heap.size)).alloc (failObj p)) := ((Same.refl (fun k => k = pb) w1).setCell (p := ⟨pb, 0, none⟩) (fun _ => rfl) _).alloc _
    have hn : ((w1.setCell ⟨pb, 0, none⟩ (failI w1.heap.size)).alloc (failObj p)).heap[w1.heap.size]? = some (failObj p) := by
      have h := heap_alloc_new (w1.setCell ⟨pb, 0, none⟩ (failI w1.heap.size)) (failObj p)
      simpa using h
    have hpb : One ((w1.setCell ⟨pb, 0, none⟩ (failI w1.heap.size)).alloc (failObj p)) pb (failI w1.heap.size) 41 := (HJ.out.setCell _).alloc _
    have hpm : pb ≠ p := fun e => by
      have h1 := HJ.out
      rw [e] at h1
      have := h1.symm.trans HPO.out
      simp at this
    exact ⟨rfl, (HSB.out.weaken (fun _ _ h => Or.inl h)).trans ((HS1.out.weaken (fun _ _ h => Or.inl h)).trans e2 (fun _ _ h => Or.inr h)) (fun _ _ h => h), HM1.out.same e2 (fun k hk e => HPB.out (by rw [← e]; exact hk)), p, w1.heap.size, by have h1 := HP1.out; have h2 := HSZ.out; have h3 : w.drew.heap.size = w.heap.size := rfl; omega, by have h2 := HSZ.out; omega, hpb, hn, e2.obj HPO.out (fun e => hpm e.symm)⟩)

theorem ask_struck {w0 : World} {pb px pk ps q : Nat} {e : En} (hb : One w0 pb (failI q) 41) :
    Calls Tryz.prog 66 #[e.agg, .pointer (some ⟨pb, 0, none⟩), .pointer (some ⟨px, 0, none⟩), .pointer (some ⟨pk, 0, none⟩), .pointer (some ⟨ps, 0, none⟩)] w0 fun r w' => r = .returned (.bool true) ∧ Same (fun _ => False) w0 w' := by
  have b0 := (hb.alloc (entObj e)).cell
  have l0 := lt_of_block (hb.alloc (entObj e))
  clear hb
  go_enter Tryz.func66, Tryz.ntmps66
  go_wp2_with fail
  go_ret
  exact ⟨rfl, (Same.refl _ w0).alloc _⟩

end Go.Proofs.YtgfmemggfbgjeaaGreatDoor

namespace Go.Proofs.YtgfmemggfbgjeaaGreatDoor
open Go.RowKit Go.Extern.Stop Go.Stop Go.Extern Go.Lib
set_option maxRecDepth 1000000

theorem handle_blk {w : World} {mp : Value} {c a h s : Int} (hg : Handle w) (hm : MAt w mp c a h s) : ¬ Blk mp 0 := by
  intro hb
  rcases hm with rfl | ⟨m, rfl, hm⟩
  · cases hb
  · have e : m = 0 := by simpa [Blk] using hb
    subst e
    unfold Handle at hg
    simp [World.cell?, hm] at hg

theorem handle_low {w : World} (h : Handle w) : 0 < w.heap.size := by
  unfold Handle at h
  rcases Nat.lt_or_ge 0 w.heap.size with h1 | h1
  · exact h1
  · simp [World.cell?, Array.getElem?_eq_none h1] at h

theorem OxAt.inner {w : World} {P Q : Nat → Prop} {x t bm bn : Nat} {uq : Bool} {mp : Value} {n a c : Int} {L : List En} (h : OxAt w P x t bm bn uq mp n a L c) (hPQ : ∀ k, k < w.heap.size → P k → Q k) (hQ : ∀ k, Blk mp k → ¬ Q k) : OxAt w Q x t bm bn uq mp n a L c :=
  ⟨h.idx, h.tree.mono hPQ, h.bm, h.bn, h.keys, h.sm, h.calm, hQ, h.kt⟩

/-- The comparator has failed: it was told. -/
def FailTo (w : World) (mp : Value) (a h s : Int) (p : Nat) (w' : World) : Prop :=
  Same (Blk mp) w w' ∧ (∃ c', MAt w' mp c' a h (IntKind.i64.wrap (s + 1))) ∧ w.heap.size ≤ p ∧ w'.heap[p]? = some (markObj (1000 + a)) ∧ a ≠ 0

/-- Between two questions. -/
def Asked (w4 : World) (pb : Nat) (mp : Value) (a h s : Int) (m : Nat) (st : Bool) (W : World) : Prop :=
  (st = false ∧ Same (Blk mp) w4 W ∧ ∃ c', MAt W mp c' a h s) ∨
  (st = true ∧ Same (fun k => Blk mp k ∨ k = pb) w4 W ∧ (∃ c', MAt W mp c' a h (IntKind.i64.wrap (s + 1))) ∧ ∃ p q, m ≤ p ∧ m ≤ q ∧ One W pb (failI q) 41 ∧ W.heap[q]? = some (failObj p) ∧ W.heap[p]? = some (markObj (1000 + a)) ∧ a ≠ 0)

set_option maxHeartbeats 8000000 in
theorem search_fail {w : World} {P : Nat → Prop} {x t bm bn g : Nat} {uq : Bool} {cap : Array Value} {v mp : Value} {K : List V} {L : List En} {d : Int → Int → Bool} {n a c cc h s : Int} (hO0 : OxAt w P x t bm bn uq mp n 0 L c) (hm : MAt w mp cc a h s) (hsm : MSmall a) (hg : Handle w) (hK : KeyOk w mp v K) (hso : SoIs mp g cap d w) (eg : ∀ args w, (callFunc g args).run Tryz.prog w = .ok (.enter g args) w)
    (hL : L.length ≤ 90000) (hmono : L.Pairwise (fun x y => soOf d n K x = true → soOf d n K y = true)) :
    Calls Tryz.prog 39 #[.pointer (some ⟨x, 0, none⟩), v, .func (.func g) #[] cap] w fun r w' => SearchEnd w mp a h s L (soOf d n K) r w' ∨ ∃ i p : Nat, r = .returned (.tuple #[.int .i64 i, markI p]) ∧ FailTo w mp a h s p w' := by
  have hO : OxAt w (fun k => P k ∧ k < w.heap.size) x t bm bn uq mp n 0 L c := hO0.inner (fun k hk hp => ⟨hp, hk⟩) (fun k hb hp => hO0.pm k hb hp.1)
  obtain ⟨vo, vc, rfl⟩ := readV_len hK.rd
  obtain ⟨w4, hw4⟩ : ∃ w4, w4 = (((w.alloc (.cells #[.pointer (some ⟨x, 0, none⟩)] 24)).alloc (.cells #[.slice vo K.length vc] 34)).alloc (.cells #[.func (.func g) #[] cap] 101)).alloc (.cells #[.nilIface] 41) := ⟨_, rfl⟩
  have hs4 : Same (fun _ => False) w w4 := by rw [hw4]; exact ((((Same.refl _ w).alloc _).alloc _).alloc _).alloc _
  have hs4' : Same (Blk mp) w w4 := hs4.weaken (fun _ _ h => h.elim)
  have o1 : One w4 w.heap.size (.pointer (some ⟨x, 0, none⟩)) 24 := by rw [hw4]; exact (((One.new _ _ _).alloc _).alloc _).alloc _
  have o2 : One w4 (w.heap.size + 1) (.slice vo K.length vc) 34 := by
    rw [hw4]
    have := ((One.new (w.alloc (.cells #[.pointer (some ⟨x, 0, none⟩)] 24)) (.slice vo K.length vc) 34).alloc (.cells #[.func (.func g) #[] cap] 101)).alloc (.cells #[.nilIface] 41)
    simpa using this
  have o3 : One w4 (w.heap.size + 1 + 1) (.func (.func g) #[] cap) 101 := by
    rw [hw4]
    have := (One.new ((w.alloc (.cells #[.pointer (some ⟨x, 0, none⟩)] 24)).alloc (.cells #[.slice vo K.length vc] 34)) (.func (.func g) #[] cap) 101).alloc (.cells #[.nilIface] 41)
    simpa using this
  have o4 : One w4 (w.heap.size + 1 + 1 + 1) .nilIface 41 := by
    rw [hw4]
    have := One.new (((w.alloc (.cells #[.pointer (some ⟨x, 0, none⟩)] 24)).alloc (.cells #[.slice vo K.length vc] 34)).alloc (.cells #[.func (.func g) #[] cap] 101)) .nilIface 41
    simpa using this
  have hO4 := hO.kept2 hm hs4'
  have hm4 : MAt w4 mp cc a h s := hm.same hs4 (fun _ _ => id)
  have hA4 : AskIn w4 (w.heap.size + 1 + 1 + 1) w.heap.size (w.heap.size + 1) (w.heap.size + 1 + 1) x t bm bn g uq cap (.slice vo K.length vc) mp K d n 0 :=
    ⟨o4, o1, o2, o3, hO4.idx, hO4.bm, hO4.bn, hK.kept hs4 (fun _ _ => id), fun w2 c i h2 => hso w2 c i (hs4'.trans h2 (fun _ _ h => h)), eg, hO.sm, hO.calm⟩
  have hsz4 : w4.heap.size = w.heap.size + 1 + 1 + 1 + 1 := by rw [hw4]; simp
  have hask : Asks w4.heap.size w4 (fun k => P k ∧ k < w.heap.size) (w.heap.size + 1 + 1 + 1) w.heap.size (w.heap.size + 1) (w.heap.size + 1 + 1) L (soOf d n K) (Asked w4 (w.heap.size + 1 + 1 + 1) mp a h s) := by
    refine ⟨fun {m st W W'} h1 h2 => ?_, fun {W} h1 _ => ?_, fun {m st W} h1 => ?_, rfl, fun {m st W e} hG ham hmW he => ?_⟩
    · rcases h1 with ⟨e1, e2, c', e3⟩ | ⟨e1, e2, ⟨c', e3⟩, p, q, hp, hq, f1, f2, f3, f4⟩
      · refine Or.inl ⟨e1, e2.trans h2 (fun i hi hz => by have := hz.1; omega), c', e3.same h2 (fun k hk hz => ?_)⟩
        have := hm4.lt hk
        have := hz.1
        omega
      · refine Or.inr ⟨e1, e2.trans h2 (fun i hi hz => by have := hz.1; omega), ⟨c', e3.same h2 (fun k hk hz => ?_)⟩, p, q, hp, hq, h2.one f1 (fun hz => by have := hz.1; omega), h2.obj f2 (fun hz => by have := hz.2; omega), h2.obj f3 (fun hz => by have := hz.2; omega), f4⟩
        have := hm4.lt hk
        have := hz.1
        omega
    · rcases h1 with h1 | ⟨e1, _⟩
      · exact Or.inl h1
      · cases e1
    · rcases h1 with ⟨_, e2, _⟩ | ⟨_, e2, _⟩
      · exact e2.weaken (fun k _ hk => hO4.pm k hk)
      · exact e2.weaken (fun k _ hk hp => hk.elim (fun hk => hO4.pm k hk hp) (fun hk => by have := hp.2; omega))
    · rcases hG with ⟨e1, e2, c', e3⟩ | ⟨e1, e2, ⟨c', e3⟩, p, q, hp, hq, f1, f2, f3, f4⟩
      · subst e1
        have hkey := (hO4.keys e he).kept e2 (hO4.keys e he).mt
        have hAW := hA4.kept2 hm4 e2
        by_cases hst : Strikes mp c' a
        · refine (ask_yes hAW e3 hsm hst hkey).mono ?_
          rintro r w' ⟨rfl, hs', hm', p, q, hp, hq, f1, f2, f3⟩
          exact ⟨true, true, rfl, Or.inr ⟨rfl, (e2.weaken (fun _ _ h => Or.inl h)).trans hs' (fun _ _ h => h), ⟨_, hm'⟩, p, q, by omega, by omega, f1, f2, f3, hst.2.1⟩, fun h => (by cases h), hs'.weaken (fun k _ hk hz => hk.elim (fun hk => by have := hm4.lt hk; have := hz.1; omega) (fun hk => by have := hz.1; omega))⟩
        · refine (ask_no hAW e3 hsm hst hkey).mono ?_
          rintro r w' ⟨rfl, hs', hm'⟩
          exact ⟨_, false, rfl, Or.inl ⟨rfl, e2.trans hs' (fun _ _ h => h), _, hm'⟩, fun _ => ⟨rfl, rfl⟩, hs'.weaken (fun k _ hk hz => by have := hm4.lt hk; have := hz.1; omega)⟩
      · subst e1
        refine (ask_struck f1).mono ?_
        rintro r w' ⟨rfl, hs'⟩
        exact ⟨true, true, rfl, Or.inr ⟨rfl, e2.trans hs' (fun _ _ h => h.elim), ⟨c', e3.same hs' (fun _ _ => id)⟩, p, q, hp, hq, hs'.one f1 id, hs'.obj f2 id, hs'.obj f3 id, f4⟩, fun h => (by cases h), hs'.weaken (fun _ _ h => h.elim)⟩
  have HS := Lib.hid (tree_search hask (Or.inl ⟨rfl, Same.refl _ _, cc, hm4⟩) hO4.tree hL hmono)
  have HB := Lib.hid (fun (W : World) (h1 : Same (Blk mp) w4 W) => h1.one o4 (hm4.ne_one o4))
  have hg4 : Handle w4 := hg.same hs4 id
  have HHG := Lib.hid (fun (W : World) (h1 : Same (fun k => Blk mp k ∨ k = w.heap.size + 1 + 1 + 1) w4 W) => hg4.same h1 (fun hz => hz.elim (handle_blk hg4 hm4) (fun hz => by have := handle_low hg; omega)))
  obtain ⟨i0, i1, i2, il⟩ := idx_cells hO4.idx
  have b1 := o1.cell
  have l1 := lt_of_block o1
  have HW := Lib.hid hw4; have HS4 := Lib.hid hs4'
  clear hg4 hg hO0 hask hA4 hm4 hO4 o1 o2 o3 o4 hs4 hs4' hw4 hO hm hK hso hmono
  go_enter Tryz.func39, Tryz.ntmps39
  go_upto_region 2 with fail
  rw [← HW.out]
  go_wp2_with fail
  refine HS.out.mono ?_
  rintro r w5 ⟨i, m, st, rfl, hi, hG, ham, _, hp⟩
  rcases hG with ⟨rfl, hs5, c', hm5⟩ | ⟨rfl, hs5, ⟨c', hm5⟩, p, q, hp', hq', f1, f2, f3, f4⟩
  · obtain ⟨f1, f2⟩ := hp rfl
    have hb5 := HB.out w5 hs5
    have b5 := hb5.cell
    have l5 := lt_of_block hb5
    have HT := Lib.hid (told_nil w5)
    have HS5 := Lib.hid (HS4.out.trans hs5 (fun _ _ h => h)); have HM5 := Lib.hid hm5; have HF1 := Lib.hid f1; have HF2 := Lib.hid f2
    clear hs5 hm5 f1 f2 hp hb5
    go_wp2_with fail
    refine HT.out.mono ?_
    rintro e w6 ⟨rfl, hs6⟩
    have HS6 := Lib.hid (HS5.out.trans hs6 (fun _ _ h => h.elim)); have HM6 := Lib.hid (HM5.out.same hs6 (fun _ _ => id))
    clear hs6
    go_wp2_with fail
    go_ret2
    exact Or.inl ⟨i, c', rfl, hi, HF1.out, HF2.out, HS6.out, HM6.out⟩
  · have b5 := f1.cell
    have l5 := lt_of_block f1
    have HT := Lib.hid (told_failed (HHG.out w5 hs5) f2)
    have HS5 := Lib.hid (HS4.out.trans (hs5.weaken (F' := fun k => Blk mp k ∨ k = w.heap.size + 1 + 1 + 1) (fun _ _ h => h)) (fun i hi h => h.elim id (fun h => by omega)))
    have HM5 := Lib.hid hm5; have HF3 := Lib.hid f3; have HF0 := Lib.hid f4
    have hpw : w.heap.size ≤ p := by omega
    clear hs5 hm5 f1 f2 f3 f4 hp
    go_wp2_with fail
    refine HT.out.mono ?_
    rintro e w6 ⟨rfl, hs6⟩
    have HS6 := Lib.hid (HS5.out.trans hs6 (fun _ _ h => h.elim)); have HM6 := Lib.hid (HM5.out.same hs6 (fun _ _ => id)); have HF4 := Lib.hid (hs6.obj HF3.out id)
    clear hs6
    go_wp2_with fail
    go_ret2
    exact Or.inr ⟨i, p, rfl, HS6.out, ⟨c', HM6.out⟩, hpw, HF4.out, HF0.out⟩

set_option maxHeartbeats 8000000 in
theorem find_fail {w : World} {P : Nat → Prop} {x t bm bn : Nat} {uq : Bool} {v mp : Value} {K : List V} {L : List En} {n a c cc h s : Int} (hO : OxAt w P x t bm bn uq mp n 0 L c) (hm : MAt w mp cc a h s) (hsm : MSmall a) (hg : Handle w) (hK : KeyOk w mp v K) (hL : L.length ≤ 90000)
    (h1 : L.Pairwise (fun x y => 0 ≤ cmpR n x.kv K → 0 ≤ cmpR n y.kv K)) (h2 : L.Pairwise (fun x y => 0 < cmpR n x.kv K → 0 < cmpR n y.kv K)) :
    Calls Tryz.prog 16 #[.pointer (some ⟨x, 0, none⟩), v] w fun r w' => FindEnd w mp a h s L n K r w' ∨ ∃ p : Nat, r = .returned (.tuple #[.int .i64 0, .int .i64 0, markI p]) ∧ FailTo w mp a h s p w' := by
  have e1 : ∀ args w, (callFunc 40 args).run Tryz.prog w = .ok (.enter 40 args) w := Go.Proofs.enters_of Tryz.func40 (by kernel_rfl) rfl
  have e2 : ∀ args w, (callFunc 41 args).run Tryz.prog w = .ok (.enter 41 args) w := Go.Proofs.enters_of Tryz.func41 (by kernel_rfl) rfl
  have HS1 := Lib.hid (search_fail (d := fun c _ => decide (0 ≤ c)) hO hm hsm hg hK (so_from mp w) e1 hL (h1.imp (fun {x y} h hx => by simp only [soOf, decide_eq_true_eq] at hx ⊢; have := h (by omega); omega)))
  have HS2 := Lib.hid (fun (W : World) (c' : Int) (hs : Same (Blk mp) w W) (hm' : MAt W mp c' a h s) => search_fail (d := fun c _ => decide (0 < c)) (hO.kept2 hm hs) hm' hsm (handle_far hg hm hs) (hK.kept hs hK.mt) (so_to mp W) e2 hL (h2.imp (fun {x y} h hx => by simp only [soOf, decide_eq_true_eq] at hx ⊢; have := h (by omega); omega)))
  obtain ⟨vo, vc, rfl⟩ := readV_len hK.rd
  clear hO hm hK h1 h2 e1 e2 hg
  go_enter Tryz.func16, Tryz.ntmps16
  go_wp2_with fail
  refine HS1.out.mono ?_
  rintro r w1 (⟨i, c1, rfl, hi, f1, f2, hs1, hm1⟩ | ⟨i, p, rfl, hs1, hm1, hp1, hpo⟩)
  · have HT := Lib.hid (HS2.out w1 c1 hs1 hm1)
    have HF1 := Lib.hid f1; have HF2 := Lib.hid f2; have HSA := Lib.hid hs1
    clear f1 f2 hs1 hm1
    go_wp2_with fail
    refine HT.out.mono ?_
    rintro r w2 (⟨k, c2, rfl, hk, f3, f4, hs2, hm2⟩ | ⟨k, p, rfl, hs2, hm2, hp2, hpo⟩)
    · have HF3 := Lib.hid f3; have HF4 := Lib.hid f4; have HSB := Lib.hid (HSA.out.trans hs2 (fun _ _ h => h)); have HM2 := Lib.hid hm2
      clear f3 f4 hs2 hm2
      go_wp2_with fail
      go_ret3
      refine Or.inl ⟨i, k, c2, rfl, hi, hk, fun y hy => ?_, fun y hy => ?_, fun y hy => ?_, fun y hy => ?_, HSB.out, HM2.out⟩
      · have := HF1.out y hy; simp only [soOf, decide_eq_false_iff_not] at this; omega
      · have := HF2.out y hy; simp only [soOf, decide_eq_true_eq] at this; omega
      · have := HF3.out y hy; simp only [soOf, decide_eq_false_iff_not] at this; omega
      · have := HF4.out y hy; simp only [soOf, decide_eq_true_eq] at this; omega
    · have HSB := Lib.hid (HSA.out.trans hs2 (fun _ _ h => h)); have HM2 := Lib.hid hm2; have HPO := Lib.hid hpo
      have hpw : w.heap.size ≤ p := Nat.le_trans HSA.out.size hp2
      clear hs2 hm2 hpo
      go_wp2_with fail
      go_ret3
      exact Or.inr ⟨p, rfl, HSB.out, HM2.out, hpw, HPO.out⟩
  · have HSB := Lib.hid hs1; have HM2 := Lib.hid hm1; have HPO := Lib.hid hpo
    clear hs1 hm1 hpo
    go_wp2_with fail
    go_ret3
    exact Or.inr ⟨p, rfl, HSB.out, HM2.out, hp1, HPO.out⟩

set_option maxHeartbeats 8000000 in
theorem rank_fail {w0 : World} {P : Nat → Prop} {x t bm bn : Nat} {uq : Bool} {v mp : Value} {K : List V} {L : List En} {n a c cc h s rid : Int} (hO0 : OxAt w0 P x t bm bn uq mp n 0 L c) (hm0 : MAt w0 mp cc a h s) (hsm : MSmall a) (hg : Handle w0) (hK0 : KeyOk w0 mp v K) (hL : L.length ≤ 90000)
    (h1 : L.Pairwise (fun x y => 0 ≤ rankC n K rid x → 0 ≤ rankC n K rid y)) :
    Calls Tryz.prog 17 #[.pointer (some ⟨x, 0, none⟩), v, .int .i64 rid] w0 fun r w' => RankEnd w0 mp a h s L n K rid r w' ∨ ∃ p : Nat, r = .returned (.tuple #[.int .i64 0, .bool false, markI p]) ∧ FailTo w0 mp a h s p w' := by
  obtain ⟨w, hw⟩ : ∃ w, w = w0.alloc (.cells #[.int .i64 rid] 2) := ⟨_, rfl⟩
  have hsb : Same (fun _ => False) w0 w := by rw [hw]; exact (Same.refl _ w0).alloc _
  have hsb' : Same (Blk mp) w0 w := hsb.weaken (fun _ _ h => h.elim)
  have hO := hO0.kept2 hm0 hsb'
  have hm : MAt w mp cc a h s := hm0.same hsb (fun _ _ => id)
  have hK := hK0.kept hsb (fun _ _ => id)
  have hob : One w w0.heap.size (.int .i64 rid) 2 := by rw [hw]; exact One.new _ _ _
  have e1 : ∀ args w, (callFunc 42 args).run Tryz.prog w = .ok (.enter 42 args) w := Go.Proofs.enters_of Tryz.func42 (by kernel_rfl) rfl
  have hd : ∀ y : En, (0 ≤ if 7 * cmpR n y.kv K ≠ 0 then 7 * cmpR n y.kv K else cmpI y.id rid) ↔ 0 ≤ rankC n K rid y := fun y => by
    unfold rankC
    by_cases h0 : cmpR n y.kv K = 0
    · rw [if_neg (by omega), if_neg (by omega)]
    · rw [if_pos (by omega), if_pos h0]; omega
  have HS1 := Lib.hid (search_fail (d := fun c i => decide (0 ≤ if c ≠ 0 then c else cmpI i rid)) hO hm hsm (hg.same hsb id) hK (so_rank hm hob) e1 hL (h1.imp (fun {x y} h hx => by simp only [soOf, decide_eq_true_eq] at hx ⊢; exact (hd y).2 (h ((hd x).1 hx)))))
  have HD := Lib.hid hd
  have HK2 := Lib.hid (fun (W : World) (hs : Same (Blk mp) w W) => And.intro (hO.kept2 hm hs) (And.intro (hK.kept hs hK.mt) (hs.one hob (hm.ne_one hob))))
  obtain ⟨vo, vc, rfl⟩ := readV_len hK.rd
  have HW := Lib.hid hw; have HSB := Lib.hid hsb'; have HSZ := Lib.hid hsb.size
  clear hg hO hm hK hO0 hm0 hK0 h1 e1 hw hsb hsb' hob hd
  go_enter Tryz.func17, Tryz.ntmps17
  go_upto_region 1 with fail
  rw [← HW.out]
  go_wp2_with fail
  refine HS1.out.mono ?_
  rintro r w1 (⟨i, c1, rfl, hi, f1, f2, hs1, hm1⟩ | ⟨i, p, rfl, hs1, hm1, hp1, hpo⟩)
  · obtain ⟨hO1, hK1, hb1⟩ := HK2.out w1 hs1
    obtain ⟨i0, i1, i2, il⟩ := idx_cells hO1.idx
    have hf1 : ∀ y ∈ L.take i, rankC n K rid y < 0 := fun y hy => by
      have h := f1 y hy
      simp only [soOf, decide_eq_false_iff_not] at h
      exact Int.not_le.1 (fun h0 => h ((HD.out y).2 h0))
    have hf2 : ∀ y ∈ L.drop i, 0 ≤ rankC n K rid y := fun y hy => by
      have h := f2 y hy
      simp only [soOf, decide_eq_true_eq] at h
      exact (HD.out y).1 h
    have HF1 := Lib.hid hf1; have HF2 := Lib.hid hf2
    have HSA := Lib.hid (HSB.out.trans hs1 (fun _ _ h => h))
    clear f1 f2 hf1 hf2
    by_cases hil : i < L.length
    · have HAT := Lib.hid (tree_at hO1.tree hL hil)
      have hyi : L[i]? = some L[i] := List.getElem?_eq_getElem hil
      have hyk := hO1.keys L[i] (List.getElem_mem hil)
      generalize L[i] = y at *
      have HM1 := Lib.hid hm1; have HB1 := Lib.hid hb1; have HYK := Lib.hid hyk; have HO1 := Lib.hid hO1; have HK1 := Lib.hid hK1; have HYI := Lib.hid hyi
      clear hs1 hm1 hb1 hyk hO1 hK1 hyi
      go_wp2_with fail
      refine HAT.out.mono ?_
      rintro r w2 ⟨rfl, hs2⟩
      obtain ⟨w3, hw3⟩ : ∃ w3, w3 = w2.alloc (entObj y) := ⟨_, rfl⟩
      have hs3 : Same (fun _ => False) w1 w3 := by rw [hw3]; exact hs2.alloc _
      have hyb : w3.heap[w2.heap.size]? = some (entObj y) := by rw [hw3]; exact heap_alloc_new _ _
      obtain ⟨y0, y1, _, _⟩ := ent_cells hyb
      have hyl := lt_of_block hyb
      have hb3 := hs3.one HB1.out id
      have b3 := hb3.cell
      have l3 := lt_of_block hb3
      have hi3 := hs3.obj HO1.out.idx id
      obtain ⟨j0, j1, j2, jl⟩ := idx_cells hi3
      have hm3 : MAt w3 mp c1 a h s := HM1.out.same hs3 (fun _ _ => id)
      have hd3 : Same (fun _ => False) w3 w3.drew := (Same.refl (fun _ => False) w3).drew
      have hsd := hs3.trans hd3 (fun _ _ h => h)
      have HCN := Lib.hid (fun (hst : ¬ Strikes mp c1 a) => cmp_no (HYK.out.kept hsd (fun _ _ => id)) (HK1.out.kept hsd (fun _ _ => id)) (hsd.one HO1.out.bm id) (hsd.one HO1.out.bn id) (hm3.same hd3 (fun _ _ => id)) hsm hst)
      have HCY := Lib.hid (fun (hst : Strikes mp c1 a) => cmp_yes (HYK.out.kept hsd (fun _ _ => id)) (HK1.out.kept hsd (fun _ _ => id)) (hsd.one HO1.out.bm id) (hsd.one HO1.out.bn id) (hm3.same hd3 (fun _ _ => id)) hsm hst)
      have HM3 := Lib.hid hm3; have HS3 := Lib.hid (HSA.out.trans hs3 (fun _ _ h => h.elim)); have HW3 := Lib.hid hw3
      have eg1 := cmpr_enter
      clear hs2 hw3 hs3 hyb hb3 hi3 hm3 hd3 hsd
      go_upto_region 5 with fail
      rw [← HW3.out]
      by_cases hyr : y.id = rid
      · have e5 : (y.id != rid) = false := by simp [hyr]
        have HYR := Lib.hid hyr
        by_cases hst : Strikes mp c1 a
        · have HC := Lib.hid (HCY.out hst)
          have HA0 := Lib.hid hst.2.1
          clear hyr hst
          go_wp2_with fail
          go_region_with (first | (go_at_call 55; refine HC.out.mono ?_; rintro r w4 ⟨p, rfl, hs4, hm4, hp4, hpo4⟩; have HM4 := Lib.hid hm4; have HPO4 := Lib.hid hpo4; have HP4 := Lib.hid hp4; have HS4 := Lib.hid (HS3.out.trans (((Same.refl (Blk mp) w3).drew).trans hs4 (fun _ _ h => h)) (fun _ _ h => h)); clear hs4 hm4 hp4 hpo4))
          all_goals go_wp2_with fail
          all_goals (
            go_ret3
            exact Or.inr ⟨p, rfl, HS4.out, ⟨_, HM4.out⟩, Nat.le_trans HS3.out.size HP4.out, HPO4.out, HA0.out⟩)
        · obtain ⟨q, hq⟩ : ∃ q, cmpR n y.kv K = q := ⟨_, rfl⟩
          have HC := Lib.hid (HCN.out hst)
          rw [hq] at HC
          have HQ := Lib.hid hq
          clear hyr hq hst
          go_wp2_with fail
          go_region_with (first | (go_at_call 55; refine HC.out.mono ?_; rintro r w4 ⟨rfl, hs4, hm4⟩; have HM4 := Lib.hid hm4; have HS4 := Lib.hid (HS3.out.trans (((Same.refl (Blk mp) w3).drew).trans hs4 (fun _ _ h => h)) (fun _ _ h => h)); clear hs4 hm4))
          all_goals go_wp2_with fail
          all_goals (
            go_ret3
            refine Or.inl ⟨i, decide (7 * q = 0), _, by first | rfl | simp, hi, HF1.out, HF2.out, ⟨fun h => ⟨y, HYI.out, HYR.out, ?_⟩, fun ⟨z, hz, _, hz2⟩ => ?_⟩, HS4.out, HM4.out⟩
            · rw [HQ.out]
              simp at h
              omega
            · rw [HYI.out] at hz
              cases hz
              rw [HQ.out] at hz2
              simp [hz2])
      · have e5 : (y.id != rid) = true := by simp [hyr]
        have HYR := Lib.hid hyr
        clear hyr
        go_wp2_with fail
        go_ret3
        exact Or.inl ⟨i, false, c1, rfl, hi, HF1.out, HF2.out, ⟨fun h => (by cases h), fun ⟨z, hz, hz1, _⟩ => (by rw [HYI.out] at hz; cases hz; exact absurd hz1 HYR.out)⟩, HS3.out, HM3.out⟩
    · have HAT := Lib.hid (tree_at_no (i := (i : Int)) hO1.tree (Or.inr (by omega)))
      have HM1 := Lib.hid hm1
      clear hs1 hm1 hb1 hO1 hK1
      go_wp2_with fail
      refine HAT.out.mono ?_
      rintro r w2 ⟨rfl, hs2⟩
      have HS2 := Lib.hid ((HSA.out.trans hs2 (fun _ _ h => h.elim)).alloc (entObj En.nil)); have HM2 := Lib.hid ((HM1.out.same hs2 (fun _ _ => id)).same ((Same.refl (fun _ => False) w2).alloc (entObj En.nil)) (fun _ _ => id))
      clear hs2
      go_wp2_with fail
      go_ret3
      refine Or.inl ⟨i, false, c1, rfl, hi, HF1.out, HF2.out, ⟨fun h => (by cases h), fun ⟨y, hy, _⟩ => (by rw [List.getElem?_eq_none (by omega)] at hy; cases hy)⟩, HS2.out, HM2.out⟩
  · have HSB2 := Lib.hid (HSB.out.trans hs1 (fun _ _ h => h)); have HM2 := Lib.hid hm1; have HPO := Lib.hid hpo
    have hpw : w0.heap.size ≤ p := Nat.le_trans HSZ.out hp1
    clear hs1 hm1 hpo
    go_wp2_with fail
    go_ret3
    exact Or.inr ⟨p, rfl, HSB2.out, HM2.out, hpw, HPO.out⟩

end Go.Proofs.YtgfmemggfbgjeaaGreatDoor
