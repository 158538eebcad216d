/-
  Copies of rows of values: rialtohelp.Copy, schema.Copy. Conditions: none but a bound of the length. rialtoplay.Meter: tick, Mark, Set. Conditions: small counts. rialtoplay's extractors: what a call of one does. Conditions: few values, short texts, small counts.
-/
import Derived.Test.YtgfmemggfbgjeaaGreatDoorM3
import Derived.Deep.QuietTactic
import Derived.BigQuiet
import Derived.IntWalk
namespace Go.Proofs.YtgfmemggfbgjeaaGreatDoor
open Go.RowKit
set_option maxRecDepth 1000000

theorem copy_any {w : World} {v : Value} {L : List V} (h : ReadV w v L) (hn : L.length ≤ 1000) :
    Calls Tryz.prog 28 #[v] w fun e w' => ∃ u, e = .returned u ∧ w'.ownsRow w.heap.size 39 4 u L.length (vals L) ∧ Same (fun _ => False) w w' := by
  have HR := Lib.hid h; clear h
  go_enter Tryz.func28, Tryz.ntmps28
  go_wp2_with (at_builtin; refine wpList_append_vals w rfl _ _ rfl w.heap.size (.slice none 0 0) 0 [] rfl (World.ownsRow_nil _ _ _ _) v L rfl HR.out ?c3 (Nat.le_refl _) ?_)
  case c3 => omega
  intro u w9 h1 h2 h3
  have hs : Same (fun _ => False) w w9 := h2.narrow (fun k _ e => by cases e)
  have h1' : w9.ownsRow w.heap.size 39 4 u L.length (vals L) := by simpa using h1
  have H1 := Lib.hid h1'; have HS := Lib.hid hs
  clear h1 h2 h3 h1' hs
  go_wp2_with fail
  go_ret
  exact ⟨_, rfl, H1.out, HS.out⟩

theorem slice_nil (n c : Nat) (w : World) : (binOp BinOp.eql 34 (.slice none n c) (.slice none 0 0)).run Tryz.prog w = .ok (.bool true) w := by kernel_rfl
theorem slice_some (a : Addr) (n c : Nat) (w : World) : (binOp BinOp.eql 34 (.slice (some a) n c) (.slice none 0 0)).run Tryz.prog w = .ok (.bool false) w := by kernel_rfl

theorem readV_len {w : World} {v : Value} {L : List V} (h : ReadV w v L) : ∃ ao cap, v = .slice ao L.length cap := by
  obtain ⟨ao, cap, rfl, _⟩ := h
  exact ⟨ao, cap, rfl⟩

theorem own_empty (w : World) : (w.alloc (.cells #[] 39)).ownsRow w.heap.size 39 4 (.slice (some ⟨w.heap.size, 0, none⟩) 0 0) 0 [] :=
  ⟨rfl, Or.inr ⟨w.heap.size, 0, #[], rfl, Nat.le_refl _, heap_alloc_new _ _, Nat.le_refl _, Nat.zero_le _, rfl, rfl⟩⟩

theorem clone0_any {w : World} {v : Value} {L : List V} (h : ReadV w v L) (hn : L.length ≤ 1000) :
    Calls Tryz.prog 60 #[v] w fun e w' => ∃ u, e = .returned u ∧ w'.ownsRow w.heap.size 39 4 u L.length (vals L) ∧ Same (fun _ => False) w w' := by
  have HR := Lib.hid h
  obtain ⟨ao, cap, rfl, hc⟩ := h
  have e0 := slice_nil
  have e1 := slice_some
  cases ao with
  | none =>
    have hL : L = [] := by
      cases L with
      | nil => rfl
      | cons y L =>
        obtain ⟨_, _, e, _⟩ := hc 0 y rfl
        cases e
    subst hL
    clear hc HR
    go_enter Tryz.func60, Tryz.ntmps60
    go_wp2_with fail
    go_ret
    exact ⟨_, rfl, World.ownsRow_nil _ _ _ _, Same.refl _ _⟩
  | some ad =>
    clear hc
    have HA := Lib.hid (HR.out.same ((Same.refl (fun _ => False) w).alloc (.cells #[] 39)))
    go_enter Tryz.func60, Tryz.ntmps60
    go_wp2_with (at_builtin; refine wpList_append_vals (w.alloc (.cells #[] 39)) rfl _ _ rfl w.heap.size (.slice (some ⟨w.heap.size, 0, none⟩) 0 0) 0 [] rfl (own_empty w) (.slice (some ad) L.length cap) L rfl HA.out ?c3 ?c4 ?_)
    case c3 => omega
    case c4 => simp
    intro u w9 h1 h2 h3
    have hs : Same (fun _ => False) w w9 := ((Same.refl (fun _ => False) w).alloc _).trans h2 (fun k hk e => by simp [Value.ownBlock] at e; omega)
    have h1' : w9.ownsRow w.heap.size 39 4 u L.length (vals L) := by simpa using h1
    have H1 := Lib.hid h1'; have HS := Lib.hid hs
    clear h1 h2 h3 h1' hs
    go_wp2_with fail
    go_ret
    exact ⟨_, rfl, H1.out, HS.out⟩

theorem clone_any {w : World} {v : Value} {L : List V} (h : ReadV w v L) (hn : L.length ≤ 1000) :
    Calls Tryz.prog 36 #[v] w fun e w' => ∃ u, e = .returned u ∧ w'.ownsRow w.heap.size 39 4 u L.length (vals L) ∧ Same (fun _ => False) w w' := by
  have HR := Lib.hid (clone0_any h hn); clear h
  go_enter Tryz.func36, Tryz.ntmps36
  go_wp2_with fail
  refine HR.out.mono ?_
  rintro e w' ⟨u, rfl, h1, h2⟩
  have H1 := Lib.hid h1; have H2 := Lib.hid h2
  clear h1 h2
  go_wp2_with fail
  go_ret
  exact ⟨_, rfl, H1.out, H2.out⟩

end Go.Proofs.YtgfmemggfbgjeaaGreatDoor

namespace Go.Proofs.YtgfmemggfbgjeaaGreatDoor
open Go.RowKit Go.Extern.Stop Go.Stop Go.Extern Go.Lib
set_option maxRecDepth 1000000

/-- A meter: how often it was called, at which call it strikes, the statement's number, how often it struck. -/
theorem vset_at {W : World} {p o : Nat} {cs : Array Value} {t : TypeId} {fr : Nat × Nat} {u : Value} (h : W.heap[p]? = some (.cells cs t fr)) : (W.setCell ⟨p, o, none⟩ u).heap[p]? = some (.cells (cs.setIfInBounds o u) t fr) := by
  simp [World.setCell, Array.getElem?_modify, h]

abbrev meterObj (c a h s : Int) : Obj := .cells #[.int .i64 c, .int .i64 a, .int .i64 h, .int .i64 s] 51

theorem meter_cells {w : World} {m : Nat} {c a h s : Int} (hm : w.heap[m]? = some (meterObj c a h s)) :
    w.cell? ⟨m, 0, none⟩ = some (.int .i64 c) ∧ w.cell? ⟨m, 1, none⟩ = some (.int .i64 a) ∧ w.cell? ⟨m, 2, none⟩ = some (.int .i64 h) ∧ w.cell? ⟨m, 3, none⟩ = some (.int .i64 s) ∧ ∀ o, w.frozen? ⟨m, o, none⟩ = false := by
  simp [World.cell?, World.frozen?, hm]

theorem tick_nil (w : World) : Calls Tryz.prog 53 #[.pointer none] w fun e w' => e = .returned .nilIface ∧ w = w' := by
  go_enter Tryz.func53, Tryz.ntmps53
  go_wp2
  go_ret
  exact ⟨rfl, rfl⟩

theorem mmark_any {w : World} {m : Nat} {c a h s : Int} (hm : w.heap[m]? = some (meterObj c a h s)) (ha : -1000 ≤ a) (ha2 : a ≤ 1000) :
    Calls Tryz.prog 73 #[.pointer (some ⟨m, 0, none⟩)] w fun e w' => e = .returned (.int .i64 (1000 + a)) ∧ w = w' := by
  obtain ⟨c0, c1, c2, c3, cf⟩ := meter_cells hm
  have hw : IntKind.i64.wrap (1000 + a) = 1000 + a := IntWalk.i64_in _ (by omega)
  clear hm
  go_enter Tryz.func73, Tryz.ntmps73
  go_wp2
  go_ret
  exact ⟨rfl, rfl⟩

/-- The mark that a meter strikes with. -/
abbrev markObj (n : Int) : Obj := .cells #[.int .i64 n] 147

/-- A call of the meter: it strikes just at the call that was asked for. -/
def TickD (w : World) (m : Nat) (d z a h s : Int) (e : Ending) (w' : World) : Prop :=
  Same (fun k => k = m) w w' ∧
    ((¬ (a ≠ 0 ∧ d = a) ∧ e = .returned .nilIface ∧ w'.heap[m]? = some (meterObj (d) a h s)) ∨
     (a ≠ 0 ∧ d = a ∧ ∃ p, w.heap.size ≤ p ∧ e = .returned (.iface 145 (.pointer (some ⟨p, 0, none⟩))) ∧ w'.heap[m]? = some (meterObj (d) a h (z)) ∧ w'.heap[p]? = some (markObj (1000 + a))))

def TickEnd (w : World) (m : Nat) (c a h s : Int) (e : Ending) (w' : World) : Prop := TickD w m (IntKind.i64.wrap (c + 1)) (IntKind.i64.wrap (s + 1)) a h s e w'

set_option maxHeartbeats 4000000 in
theorem tick_d {w : World} {m : Nat} {c a h s d z : Int} (hw1 : IntKind.i64.wrap (c + 1) = d) (hw2 : IntKind.i64.wrap (s + 1) = z) (hm : w.heap[m]? = some (meterObj c a h s)) (ha : -1000 ≤ a) (ha2 : a ≤ 1000) :
    Calls Tryz.prog 53 #[.pointer (some ⟨m, 0, none⟩)] w fun e w' => TickD w m d z a h s e w' := by
  have hml := lt_of_block hm
  obtain ⟨c0, c1, c2, c3, cf⟩ := meter_cells hm
  have hm1 : (w.setCell ⟨m, 0, none⟩ (.int .i64 (d))).heap[m]? = some (meterObj (d) a h s) := vset_at hm
  have hsm1 : Same (fun k => k = m) w (w.setCell ⟨m, 0, none⟩ (.int .i64 (d))) := (Same.refl (fun k => k = m) w).setCell (p := ⟨m, 0, none⟩) (fun _ => rfl) _
  have HM := Lib.hid hm; have HM1 := Lib.hid hm1; have HS1 := Lib.hid hsm1
  clear hm hm1 hsm1
  go_enter Tryz.func53, Tryz.ntmps53
  go_wp2_with fail
  clear c0 c1 c2 c3 cf
  generalize hw : w.setCell ⟨m, 0, none⟩ (.int .i64 (d)) = w1 at *
  have HWE := Lib.hid hw; clear hw
  obtain ⟨d0, d1, d2, d3, df⟩ := meter_cells HM1.out
  by_cases h0 : a = 0
  · have g0 : (a == 0) = true := by simp [h0]
    have H0 := Lib.hid h0
    clear h0
    go_quiet (fail)
    go_wp2_with fail
    go_ret
    exact ⟨HS1.out.drewN _, Or.inl ⟨fun h => h.1 H0.out, rfl, HM1.out⟩⟩
  · have g0 : (a == 0) = false := by simp [h0]
    by_cases h1 : d = a
    · have g1 : (d == a) = true := by simp [h1]
      have g1' : (d != a) = false := by simp [h1]
      have H0 := Lib.hid h0; have H1 := Lib.hid h1
      clear h0 h1
      go_quiet (fail)
      go_wp2_with fail
      have hm2 : ((w1.drewN nq).setCell ⟨m, 3, none⟩ (.int .i64 (z))).heap[m]? = some (meterObj (d) a h (z)) := vset_at (W := w1.drewN nq) HM1.out
      have hs2 : Same (fun k => k = m) w ((w1.drewN nq).setCell ⟨m, 3, none⟩ (.int .i64 (z))) := (HS1.out.drewN nq).setCell (p := ⟨m, 3, none⟩) (fun _ => rfl) _
      clear d0 d1 d2 d3 df
      generalize (w1.drewN nq).setCell ⟨m, 3, none⟩ (.int .i64 (z)) = w2 at *
      refine (mmark_any hm2 ha ha2).mono ?_
      rintro e w3 ⟨rfl, rfl⟩
      have hp := heap_alloc_new w2 (markObj (1000 + a))
      have hm3 := ((Same.refl (fun _ => False) w2).alloc (markObj (1000 + a))).obj hm2 id
      have hs3 := hs2.alloc (markObj (1000 + a))
      have HP := Lib.hid hp; have HM3 := Lib.hid hm3; have HS3 := Lib.hid hs3; have HSZ := Lib.hid hs2.size
      clear hp hm3 hs3 hm2 hs2
      go_wp2_with fail
      go_ret
      exact ⟨HS3.out, Or.inr ⟨H0.out, H1.out, w2.heap.size, HSZ.out, rfl, HM3.out, HP.out⟩⟩
    · have g1 : (d == a) = false := by simp [h1]
      have g1' : (d != a) = true := by simp [h1]
      have H0 := Lib.hid h0; have H1 := Lib.hid h1
      clear h0 h1
      go_quiet (fail)
      go_wp2_with fail
      go_ret
      exact ⟨HS1.out.drewN _, Or.inl ⟨fun h => H1.out h.2, rfl, HM1.out⟩⟩

theorem tick_any {w : World} {m : Nat} {c a h s : Int} (hm : w.heap[m]? = some (meterObj c a h s)) (ha : -1000 ≤ a) (ha2 : a ≤ 1000) :
    Calls Tryz.prog 53 #[.pointer (some ⟨m, 0, none⟩)] w fun e w' => TickEnd w m c a h s e w' := tick_d rfl rfl hm ha ha2

set_option maxHeartbeats 4000000 in
theorem mset_any {w : World} {m : Nat} {c a h s : Int} (hm : w.heap[m]? = some (meterObj c a h s)) (n how : Int) (hn : 0 ≤ n) :
    Calls Tryz.prog 20 #[.pointer (some ⟨m, 0, none⟩), .int .i64 n, .int .i64 how] w fun e w' => e = .returned (.tuple #[]) ∧ Same (fun k => k = m) w w' ∧ w'.heap[m]? = some (meterObj 0 n (bits .and .i64 how 1023) 0) := by
  have hml := lt_of_block hm
  obtain ⟨c0, c1, c2, c3, cf⟩ := meter_cells hm
  have hm1 : ((((w.setCell ⟨m, 0, none⟩ (.int .i64 0)).setCell ⟨m, 1, none⟩ (.int .i64 n)).setCell ⟨m, 2, none⟩ (.int .i64 (bits .and .i64 how 1023))).setCell ⟨m, 3, none⟩ (.int .i64 0)).heap[m]? = some (meterObj 0 n (bits .and .i64 how 1023) 0) := vset_at (vset_at (vset_at (vset_at hm)))
  have hs1 : Same (fun k => k = m) w ((((w.setCell ⟨m, 0, none⟩ (.int .i64 0)).setCell ⟨m, 1, none⟩ (.int .i64 n)).setCell ⟨m, 2, none⟩ (.int .i64 (bits .and .i64 how 1023))).setCell ⟨m, 3, none⟩ (.int .i64 0)) :=
    ((((Same.refl (fun k => k = m) w).setCell (p := ⟨m, 0, none⟩) (fun _ => rfl) _).setCell (p := ⟨m, 1, none⟩) (fun _ => rfl) _).setCell (p := ⟨m, 2, none⟩) (fun _ => rfl) _).setCell (p := ⟨m, 3, none⟩) (fun _ => rfl) _
  have HM := Lib.hid hm1; have HS := Lib.hid hs1
  clear hm hm1 hs1
  go_enter Tryz.func20, Tryz.ntmps20
  go_wp2
  go_end0
  exact ⟨rfl, HS.out, HM.out⟩

end Go.Proofs.YtgfmemggfbgjeaaGreatDoor

namespace Go.Proofs.YtgfmemggfbgjeaaGreatDoor
open Go.RowKit Go.Extern.Stop Go.Stop Go.Extern Go.Lib
set_option maxRecDepth 1000000

/-- A meter, or none. -/
def MAt (w : World) (mp : Value) (c a h s : Int) : Prop := mp = .pointer none ∨ ∃ m, mp = .pointer (some ⟨m, 0, none⟩) ∧ w.heap[m]? = some (meterObj c a h s)

/-- It strikes at the next call. -/
def Strikes (mp : Value) (c a : Int) : Prop := mp ≠ .pointer none ∧ a ≠ 0 ∧ IntKind.i64.wrap (c + 1) = a

/-- The meter's block. -/
def Blk (mp : Value) (k : Nat) : Prop := mp = .pointer (some ⟨k, 0, none⟩)

theorem MAt.same {w w' : World} {mp : Value} {c a h s : Int} {F : Nat → Prop} (hm : MAt w mp c a h s) (hs : Same F w w') (hF : ∀ k, Blk mp k → ¬ F k) : MAt w' mp c a h s := by
  rcases hm with rfl | ⟨m, rfl, hm⟩
  · exact Or.inl rfl
  · exact Or.inr ⟨m, rfl, hs.obj hm (hF m rfl)⟩

theorem MAt.lt {w : World} {mp : Value} {c a h s : Int} (hm : MAt w mp c a h s) {k : Nat} (hk : Blk mp k) : k < w.heap.size := by
  rcases hm with rfl | ⟨m, rfl, hm⟩
  · cases hk
  · cases hk
    exact lt_of_block hm

/-- The meter's block is no block of one cell. -/
theorem MAt.ne_one {w : World} {mp : Value} {c a h s : Int} (hm : MAt w mp c a h s) {b : Nat} {v : Value} {t : TypeId} (hb : One w b v t) : ¬ Blk mp b := by
  rcases hm with rfl | ⟨m, rfl, hm⟩
  · intro h; cases h
  · intro h
    cases h
    have := hb.symm.trans hm
    simp at this

theorem MAt.ne_own {w : World} {mp : Value} {c a h s : Int} (hm : MAt w mp c a h s) {B n : Nat} {x : Value} {xs : List Value} (ho : w.ownsRow B 39 4 x n xs) {k : Nat} (hk : Blk mp k) : x.ownBlock ≠ some k := by
  rcases hm with rfl | ⟨m, rfl, hm⟩
  · cases hk
  · cases hk
    intro e
    rcases ho.2 with ⟨rfl, _⟩ | ⟨g, cap, cur, rfl, _, hh, _⟩
    · cases e
    · simp only [Value.ownBlock, Option.some.injEq] at e
      subst e
      have := hh.symm.trans hm
      simp at this

abbrev markI (p : Nat) : Value := .iface 145 (.pointer (some ⟨p, 0, none⟩))

/-- What a call of a meter, or none, ends with. -/
def TickAt (w : World) (mp : Value) (c a h s : Int) (e : Ending) (w' : World) : Prop :=
  Same (Blk mp) w w' ∧ ((¬ Strikes mp c a ∧ e = .returned .nilIface ∧ MAt w' mp (IntKind.i64.wrap (c + 1)) a h s) ∨
    (Strikes mp c a ∧ ∃ p, w.heap.size ≤ p ∧ e = .returned (markI p) ∧ MAt w' mp (IntKind.i64.wrap (c + 1)) a h (IntKind.i64.wrap (s + 1)) ∧ w'.heap[p]? = some (markObj (1000 + a))))

structure MSmall (a : Int) : Prop where
  a0 : -1000 ≤ a
  a1 : a ≤ 1000

theorem tick_mp {w : World} {mp : Value} {c a h s : Int} (hm : MAt w mp c a h s) (hs : MSmall a) :
    Calls Tryz.prog 53 #[mp] w fun e w' => TickAt w mp c a h s e w' := by
  rcases hm with rfl | ⟨m, rfl, hm⟩
  · refine (tick_nil w).mono fun e w' ⟨q1, q2⟩ => ?_
    subst q2
    exact ⟨Same.refl _ _, Or.inl ⟨fun h => h.1 rfl, q1, Or.inl rfl⟩⟩
  · refine (tick_any hm hs.a0 hs.a1).mono fun e w' ⟨q1, q2⟩ => ⟨q1.weaken (fun k _ h => by subst h; rfl), ?_⟩
    rcases q2 with ⟨q2, q3, q4⟩ | ⟨q2, q3, p, q4, q5, q6, q7⟩
    · exact Or.inl ⟨fun h => q2 h.2, q3, Or.inr ⟨m, rfl, q4⟩⟩
    · exact Or.inr ⟨⟨by simp, q2, q3⟩, p, q4, q5, Or.inr ⟨m, rfl, q6⟩, q7⟩

end Go.Proofs.YtgfmemggfbgjeaaGreatDoor
