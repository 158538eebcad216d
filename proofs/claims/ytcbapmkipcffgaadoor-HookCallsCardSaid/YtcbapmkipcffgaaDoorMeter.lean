/-
  rialtoplay.Meter: tick, Mark, Set. Conditions: small counts.
-/
import Derived.Test.YtcbapmkipcffgaaDoorExt
import Derived.Deep.QuietTactic
import Derived.BigQuiet
import Derived.IntWalk
namespace Go.Proofs.YtcbapmkipcffgaaDoor
open Go.RowKit Go.Extern.Stop Go.Stop Go.Extern Go.Lib
set_option maxRecDepth 1000000

/-- A meter: how often it was called, at which call it strikes, the statement's number, how often it struck. -/
abbrev meterObj (c a h s : Int) : Obj := .cells #[.int .i64 c, .int .i64 a, .int .i64 h, .int .i64 s] 72

theorem meter_cells {w : World} {m : Nat} {c a h s : Int} (hm : w.heap[m]? = some (meterObj c a h s)) :
    w.cell? ⟨m, 0, none⟩ = some (.int .i64 c) ∧ w.cell? ⟨m, 1, none⟩ = some (.int .i64 a) ∧ w.cell? ⟨m, 2, none⟩ = some (.int .i64 h) ∧ w.cell? ⟨m, 3, none⟩ = some (.int .i64 s) ∧ ∀ o, w.frozen? ⟨m, o, none⟩ = false := by
  simp [World.cell?, World.frozen?, hm]

theorem tick_nil (w : World) : Calls Tryd.prog 81 #[.pointer none] w fun e w' => e = .returned .nilIface ∧ w = w' := by
  go_enter Tryd.func81, Tryd.ntmps81
  go_wp2
  go_ret
  exact ⟨rfl, rfl⟩

theorem mmark_any {w : World} {m : Nat} {c a h s : Int} (hm : w.heap[m]? = some (meterObj c a h s)) (ha : -1000 ≤ a) (ha2 : a ≤ 1000) :
    Calls Tryd.prog 48 #[.pointer (some ⟨m, 0, none⟩)] w fun e w' => e = .returned (.int .i64 (1000 + a)) ∧ w = w' := by
  obtain ⟨c0, c1, c2, c3, cf⟩ := meter_cells hm
  have hw : IntKind.i64.wrap (1000 + a) = 1000 + a := IntWalk.i64_in _ (by omega)
  clear hm
  go_enter Tryd.func48, Tryd.ntmps48
  go_wp2
  go_ret
  exact ⟨rfl, rfl⟩

/-- The mark that a meter strikes with. -/
abbrev markObj (n : Int) : Obj := .cells #[.int .i64 n] 43

/-- A call of the meter: it strikes just at the call that was asked for. -/
def TickEnd (w : World) (m : Nat) (c a h s : Int) (e : Ending) (w' : World) : Prop :=
  Same (fun k => k = m) w w' ∧
    ((¬ (a ≠ 0 ∧ c + 1 = a) ∧ e = .returned .nilIface ∧ w'.heap[m]? = some (meterObj (c + 1) a h s)) ∨
     (a ≠ 0 ∧ c + 1 = a ∧ ∃ p, w.heap.size ≤ p ∧ e = .returned (.iface 41 (.pointer (some ⟨p, 0, none⟩))) ∧ w'.heap[m]? = some (meterObj (c + 1) a h (s + 1)) ∧ w'.heap[p]? = some (markObj (1000 + a))))

set_option maxHeartbeats 4000000 in
theorem tick_any {w : World} {m : Nat} {c a h s : Int} (hm : w.heap[m]? = some (meterObj c a h s)) (hc0 : 0 ≤ c) (hc1 : c ≤ 1000000) (ha : -1000 ≤ a) (ha2 : a ≤ 1000) (hs0 : 0 ≤ s) (hs1 : s ≤ 1000000) :
    Calls Tryd.prog 81 #[.pointer (some ⟨m, 0, none⟩)] w fun e w' => TickEnd w m c a h s e w' := by
  have hml := lt_of_block hm
  obtain ⟨c0, c1, c2, c3, cf⟩ := meter_cells hm
  have hw1 : IntKind.i64.wrap (c + 1) = c + 1 := IntWalk.i64_in _ (by omega)
  have hw2 : IntKind.i64.wrap (s + 1) = s + 1 := IntWalk.i64_in _ (by omega)
  have hm1 : (w.setCell ⟨m, 0, none⟩ (.int .i64 (c + 1))).heap[m]? = some (meterObj (c + 1) a h s) := vset_at hm
  have hsm1 : Same (fun k => k = m) w (w.setCell ⟨m, 0, none⟩ (.int .i64 (c + 1))) := (Same.refl (fun k => k = m) w).setCell (p := ⟨m, 0, none⟩) (fun _ => rfl) _
  have HM := Lib.hid hm; have HM1 := Lib.hid hm1; have HS1 := Lib.hid hsm1
  clear hm hm1 hsm1
  go_enter Tryd.func81, Tryd.ntmps81
  go_wp2_with fail
  clear c0 c1 c2 c3 cf
  generalize hw : w.setCell ⟨m, 0, none⟩ (.int .i64 (c + 1)) = w1 at *
  have HWE := Lib.hid hw; clear hw
  obtain ⟨d0, d1, d2, d3, df⟩ := meter_cells HM1.out
  by_cases h0 : a = 0
  · have g0 : (a == 0) = true := by simp [h0]
    have H0 := Lib.hid h0
    clear h0
    go_quiet (fail)
    go_wp2_with fail
    go_ret
    exact ⟨HS1.out.drewN _, Or.inl ⟨fun h => h.1 H0.out, rfl, HM1.out⟩⟩
  · have g0 : (a == 0) = false := by simp [h0]
    by_cases h1 : c + 1 = a
    · have g1 : (c + 1 == a) = true := by simp [h1]
      have g1' : (c + 1 != a) = false := by simp [h1]
      have H0 := Lib.hid h0; have H1 := Lib.hid h1
      clear h0 h1
      go_quiet (fail)
      go_wp2_with fail
      have hm2 : ((w1.drewN nq).setCell ⟨m, 3, none⟩ (.int .i64 (s + 1))).heap[m]? = some (meterObj (c + 1) a h (s + 1)) := vset_at (W := w1.drewN nq) HM1.out
      have hs2 : Same (fun k => k = m) w ((w1.drewN nq).setCell ⟨m, 3, none⟩ (.int .i64 (s + 1))) := (HS1.out.drewN nq).setCell (p := ⟨m, 3, none⟩) (fun _ => rfl) _
      clear d0 d1 d2 d3 df
      generalize (w1.drewN nq).setCell ⟨m, 3, none⟩ (.int .i64 (s + 1)) = w2 at *
      refine (mmark_any hm2 ha ha2).mono ?_
      rintro e w3 ⟨rfl, rfl⟩
      have hp := heap_alloc_new w2 (markObj (1000 + a))
      have hm3 := ((Same.refl (fun _ => False) w2).alloc (markObj (1000 + a))).obj hm2 id
      have hs3 := hs2.alloc (markObj (1000 + a))
      have HP := Lib.hid hp; have HM3 := Lib.hid hm3; have HS3 := Lib.hid hs3; have HSZ := Lib.hid hs2.size
      clear hp hm3 hs3 hm2 hs2
      go_wp2_with fail
      go_ret
      exact ⟨HS3.out, Or.inr ⟨H0.out, H1.out, w2.heap.size, HSZ.out, rfl, HM3.out, HP.out⟩⟩
    · have g1 : (c + 1 == a) = false := by simp [h1]
      have g1' : (c + 1 != a) = true := by simp [h1]
      have H0 := Lib.hid h0; have H1 := Lib.hid h1
      clear h0 h1
      go_quiet (fail)
      go_wp2_with fail
      go_ret
      exact ⟨HS1.out.drewN _, Or.inl ⟨fun h => H1.out h.2, rfl, HM1.out⟩⟩

set_option maxHeartbeats 4000000 in
theorem mset_any {w : World} {m : Nat} {c a h s : Int} (hm : w.heap[m]? = some (meterObj c a h s)) (n how : Int) (hn : 0 ≤ n) :
    Calls Tryd.prog 35 #[.pointer (some ⟨m, 0, none⟩), .int .i64 n, .int .i64 how] w fun e w' => e = .returned (.tuple #[]) ∧ Same (fun k => k = m) w w' ∧ w'.heap[m]? = some (meterObj 0 n (bits .and .i64 how 1023) 0) := by
  have hml := lt_of_block hm
  obtain ⟨c0, c1, c2, c3, cf⟩ := meter_cells hm
  have hm1 : ((((w.setCell ⟨m, 0, none⟩ (.int .i64 0)).setCell ⟨m, 1, none⟩ (.int .i64 n)).setCell ⟨m, 2, none⟩ (.int .i64 (bits .and .i64 how 1023))).setCell ⟨m, 3, none⟩ (.int .i64 0)).heap[m]? = some (meterObj 0 n (bits .and .i64 how 1023) 0) := vset_at (vset_at (vset_at (vset_at hm)))
  have hs1 : Same (fun k => k = m) w ((((w.setCell ⟨m, 0, none⟩ (.int .i64 0)).setCell ⟨m, 1, none⟩ (.int .i64 n)).setCell ⟨m, 2, none⟩ (.int .i64 (bits .and .i64 how 1023))).setCell ⟨m, 3, none⟩ (.int .i64 0)) :=
    ((((Same.refl (fun k => k = m) w).setCell (p := ⟨m, 0, none⟩) (fun _ => rfl) _).setCell (p := ⟨m, 1, none⟩) (fun _ => rfl) _).setCell (p := ⟨m, 2, none⟩) (fun _ => rfl) _).setCell (p := ⟨m, 3, none⟩) (fun _ => rfl) _
  have HM := Lib.hid hm1; have HS := Lib.hid hs1
  clear hm hm1 hs1
  go_enter Tryd.func35, Tryd.ntmps35
  go_wp2
  go_end0
  exact ⟨rfl, HS.out, HM.out⟩

end Go.Proofs.YtcbapmkipcffgaaDoor
