/-
  hook.Extract: by what the extractor does: the walk. Conditions: none but rows of at most 1000 values.
-/
import Derived.Test.YtcbapmkipcffgaaDoorExt
import Derived.Test.YtcbapmkipcffgaaDoorValIs
namespace Go.Proofs.YtcbapmkipcffgaaDoor
open Go.RowKit Go.Extern.Stop Go.Stop Go.Extern Go.Lib
set_option maxRecDepth 1000000

/-- What stands behind the call, whatever comes of it. -/
structure ExtAt (w w1 w2 w4 : World) (F : Nat → Prop) : Prop where
  s1 : Same (fun _ => False) w w1
  s2 : Same F w w2
  le : w.heap.size + 7 ≤ w1.heap.size
  le2 : w1.heap.size ≤ w2.heap.size
  s4 : Same (fun k => w.heap.size ≤ k ∧ k < w.heap.size + 7) w2 w4
  r : w4.heap[w.heap.size + 1 + 1]? = some V.nil.obj

theorem ExtAt.done {w w1 w2 w4 : World} {F : Nat → Prop} (h : ExtAt w w1 w2 w4 F) (x : V) : Same (fun k => w.heap.size ≤ k ∧ k < w.heap.size + 7) w2 (vset4 w4 (w.heap.size + 1 + 1) x) ∧ (vset4 w4 (w.heap.size + 1 + 1) x).heap[w.heap.size + 1 + 1]? = some x.obj :=
  ⟨vset4_same h.s4 (fun _ => by omega) x, vset4_obj h.r x⟩

theorem ExtAt.alloc {w w1 w2 w4 : World} {F : Nat → Prop} (h : ExtAt w w1 w2 w4 F) (o : Obj) : ExtAt w w1 w2 (w4.alloc o) F :=
  ⟨h.s1, h.s2, h.le, h.le2, h.s4.alloc o, ((Same.refl (fun _ => False) w4).alloc o).obj h.r id⟩

theorem nilf (g : FuncId) (caps : Array Value) (w : World) : (binOp BinOp.eql 92 (.func (.func g) #[] caps) .nilFunc).run Tryd.prog w = .ok (.bool false) w := by kernel_rfl

set_option maxHeartbeats 8000000 in
theorem extract_any {w : World} {wh : ByteArray} {g : FuncId} {caps : Array Value} {vs : Value} {L : List V} {F : Nat → Prop} {R : World → Ending → World → Prop}
    (hg : ∀ (args : Array Value) (w : World), (callFunc g args).run Tryd.prog w = .ok (.enter g args) w) (hv : ReadV w vs L) (hn : L.length ≤ 1000) (hF : ∀ k, F k → k < w.heap.size)
    (hf : ∀ w1 x, Same (fun _ => False) w w1 → w1.ownsRow (w.heap.size + 7) 38 4 x L.length (vals L) → Calls Tryd.prog g (#[x] ++ caps) w1 fun e w2 => TellsV e ∧ Same (fun k => F k ∨ x.ownBlock = some k) w1 w2 ∧ R w1 e w2) :
    Calls Tryd.prog 26 #[.string wh, .func (.func g) #[] caps, vs] w fun e w' =>
      ∃ w1 e0 w2, Same (fun _ => False) w w1 ∧ R w1 e0 w2 ∧ TellsV e0 ∧ Same F w w2 ∧ w.heap.size + 7 ≤ w1.heap.size ∧ w1.heap.size ≤ w2.heap.size ∧ Same (fun k => w.heap.size ≤ k ∧ k < w.heap.size + 7) w2 w' ∧ ExtTold wh e0 e w' := by
  have hnil := nilf g caps
  obtain ⟨vo, vc, rfl⟩ := readV_len hv
  have HR := Lib.hid (ext_run (wh := wh) hg hv hn hF hf)
  clear hg hv hf
  go_enter Tryd.func26, Tryd.ntmps26
  go_wp2_with fail
  refine HR.out.mono ?_
  rintro e w4 ⟨w1, e0, w2, e1, w3, a1, a2, a3, a4, a5, a6, a7, a8, a9, a10⟩
  have hs24 : Same (fun k => w.heap.size ≤ k ∧ k < w.heap.size + 7) w2 w4 := by
    rcases a8 with ⟨y, er, _, _, b1, _⟩ | ⟨c, _, _, rfl⟩
    · exact (b1.weaken (fun k _ h => by subst h; omega)).trans a9 (fun k _ h => by omega)
    · exact a9.weaken (fun k _ h => by omega)
  have hr4 : w4.heap[w.heap.size + 1 + 1]? = some V.nil.obj := by
    rcases a8 with ⟨y, er, _, _, b1, _⟩ | ⟨c, _, _, rfl⟩
    · exact a9.obj (b1.obj a6 (by omega)) (by omega)
    · exact a9.obj a6 (by omega)
  have hat : ExtAt w w1 w2 w4 F := ⟨a1, a5, a2, a7, hs24, hr4⟩
  have HAT := Lib.hid hat; have H3 := Lib.hid a3; have H4 := Lib.hid a4
  clear a1 a2 a3 a5 a6 a7 hs24 hr4 hat HR
  rcases a8 with ⟨y, er, rfl, rfl, b1, b2⟩ | ⟨c, rfl, rfl, rfl⟩
  · have hy : y.ok := by
      rcases a4 with ⟨y', er', c1, c2, _⟩ | ⟨T, z, _, c2⟩
      · have e1 : y = y' := tuple2_val c2
        rw [e1]; exact c1
      · cases c2
    rcases a10 with ⟨c1, rfl⟩ | ⟨D, x, p, c1, rfl, ho⟩ | ⟨T, x, p, c1, _⟩
    · obtain rfl : er = .nilIface := by simpa using c1
      have hb : w4.heap[w.heap.size + 1 + 1 + 1]? = some y.obj := a9.obj b2 (by omega)
      obtain ⟨o0, o1, o2, o3⟩ := obj_cells hb
      have HIS := Lib.hid (is_any y hy)
      have hb5 : (w4.alloc y.obj).heap[w.heap.size + 1 + 1 + 1]? = some y.obj := ((Same.refl (fun _ => False) w4).alloc y.obj).obj hb id
      have HB5 := Lib.hid hb5
      clear c1 b1 b2 a9 hb a4 hb5
      go_wp2_with fail
      refine (HIS.out w4).mono ?_
      rintro e w5 ⟨rfl, rfl⟩
      have hat2 := HAT.out.alloc y.obj
      clear o0 o1 o2 o3 HIS
      generalize w4.alloc y.obj = w5 at *
      obtain ⟨r0, r1, r2, r3⟩ := obj_cells hat2.r
      have rf := vobj_free hat2.r
      have lr := lt_of_block hat2.r
      have HAT2 := Lib.hid hat2
      clear hat2
      cases hi : isV y
      · obtain ⟨d1, d2⟩ := HAT2.out.done V.nil
        have e1 := d1.alloc (faultObj wh (.iface 46 (.int .i64 10)) .nilIface)
        have e2 := ((Same.refl (fun _ => False) (vset4 w5 (w.heap.size + 1 + 1) V.nil)).alloc (faultObj wh (.iface 46 (.int .i64 10)) .nilIface)).obj d2 id
        have ho := heap_alloc_new (vset4 w5 (w.heap.size + 1 + 1) V.nil) (faultObj wh (.iface 46 (.int .i64 10)) .nilIface)
        rw [show (vset4 w5 (w.heap.size + 1 + 1) V.nil).heap.size = w5.heap.size by simp [World.setCell]] at ho
        have D1 := Lib.hid e1; have D2 := Lib.hid e2; have HO := Lib.hid ho; have HI := Lib.hid hi
        clear d1 d2 e1 e2 ho hi
        go_wp2_with fail
        exact vret (x := V.nil) rfl rfl D2.out rfl rfl ⟨w1, _, w2, HAT.out.s1, H3.out, H4.out, HAT.out.s2, HAT.out.le, HAT.out.le2, D1.out, Or.inr (Or.inl ⟨y, _, rfl, HI.out, rfl, HO.out⟩)⟩
      · obtain ⟨d1, d2⟩ := HAT2.out.done y
        obtain ⟨o0, o1, o2, o3⟩ := obj_cells HB5.out
        have D1 := Lib.hid d1; have D2 := Lib.hid d2; have HI := Lib.hid hi
        clear d1 d2 hi
        go_wp2_with fail
        exact vret (x := y) rfl rfl D2.out rfl rfl ⟨w1, _, w2, HAT.out.s1, H3.out, H4.out, HAT.out.s2, HAT.out.le, HAT.out.le2, D1.out, Or.inl ⟨y, rfl, HI.out, rfl⟩⟩
    · obtain rfl : er = .iface D x := by simpa using c1
      have ho2 : (vset4 w4 (w.heap.size + 1 + 1) V.nil).heap[p]? = some (faultObj wh (.iface D x) .nilIface) := (vset4_same (Same.refl (fun k => k = w.heap.size + 1 + 1) _) (fun _ => rfl) V.nil).obj ho (by
        intro e
        subst e
        have := ho.symm.trans HAT.out.r
        simp at this)
      obtain ⟨f0, f1, f2, f3⟩ := obj_cells HAT.out.r
      have ff := vobj_free HAT.out.r
      obtain ⟨d1, d2⟩ := HAT.out.done V.nil
      have D1 := Lib.hid d1; have D2 := Lib.hid d2; have HO := Lib.hid ho2
      clear d1 d2 ho ho2 c1 b1 b2 a9 a4
      go_wp2_with fail
      exact vret (x := V.nil) rfl rfl D2.out rfl rfl ⟨w1, _, w2, HAT.out.s1, H3.out, H4.out, HAT.out.s2, HAT.out.le, HAT.out.le2, D1.out, Or.inr (Or.inr (Or.inl ⟨y, D, x, _, rfl, rfl, HO.out⟩))⟩
    · cases c1
  · rcases a4 with ⟨y', er', _, c2, _⟩ | ⟨T, z, hT, c2⟩
    · cases c2
    cases c2
    rcases a10 with ⟨c1, rfl⟩ | ⟨D, x, p, c1, rfl, ho⟩ | ⟨T', x, p, c1, rfl, ho⟩
    · cases c1
    · cases c1
    · cases c1
      have ho2 : (vset4 w4 (w.heap.size + 1 + 1) V.nil).heap[p]? = some (faultObj wh .nilIface (.iface T z)) := (vset4_same (Same.refl (fun k => k = w.heap.size + 1 + 1) _) (fun _ => rfl) V.nil).obj ho (by
        intro e
        subst e
        have := ho.symm.trans HAT.out.r
        simp at this)
      obtain ⟨f0, f1, f2, f3⟩ := obj_cells HAT.out.r
      have ff := vobj_free HAT.out.r
      obtain ⟨d1, d2⟩ := HAT.out.done V.nil
      have D1 := Lib.hid d1; have D2 := Lib.hid d2; have HO := Lib.hid ho2
      clear d1 d2 ho ho2 a9
      go_wp2_with fail
      exact vret (x := V.nil) rfl rfl D2.out rfl rfl ⟨w1, _, w3, HAT.out.s1, H3.out, H4.out, HAT.out.s2, HAT.out.le, HAT.out.le2, D1.out, Or.inr (Or.inr (Or.inr ⟨T, z, _, rfl, rfl, HO.out⟩))⟩

end Go.Proofs.YtcbapmkipcffgaaDoor
