/-
  hook.Run: the deferred closure, for a frame that returns and for one that panics; Run by what the user's code does. Conditions: none.
-/
import Derived.Test.YtgfmemggfbgjeaaGreatDoorM29
import Derived.Defers
import Derived.Recover
import Derived.Tactics2
namespace Go.Proofs.YtgfmemggfbgjeaaGreatDoor
open Go.RowKit Go.Extern.Stop Go.Stop Go.Extern Go.Lib

theorem wpS_rest {P : Program} {fn : Func} {c₀ : Frame} {cs : List Frame} {R : Ending → FrameMode → World → Prop} {c : Code} {u1 : FrameMode} {a : Act} {w : World} {c' : Frame} (hc : c' = { c₀ with mode := u1 })
    (h : c.wp P (bodyPost P fn fun e w' => R e u1 w') a w) : c.wpS P (bodyPostS P fn c₀ cs R) a (c' :: cs) w := by
  subst hc
  refine wpS_of_wp ?_
  intro b k cs2
  obtain ⟨e, a', w', q, r⟩ := h b k cs2
  refine ⟨e, a', w', ?_, r⟩
  cases e with
  | normal => obtain ⟨hd, v, hr, hR⟩ := q; exact ⟨hd, u1, rfl, v, hr, hR⟩
  | ret => obtain ⟨hd, v, hr, hR⟩ := q; exact ⟨hd, u1, rfl, v, hr, hR⟩
  | panic chain => obtain ⟨hd, hR⟩ := q; exact ⟨hd, u1, rfl, hR⟩
  | exit id => exact q.elim
  | goto l => exact q.elim
  | outgrown => exact ⟨u1, q⟩

theorem alloc_size (w : World) (o : Obj) : (w.alloc o).heap.size = w.heap.size + 1 := by simp

theorem wp_tmps {P : Program} {c : Code} {Q : Exit → Act → World → Prop} {a a' : Act} {w : World} (h : a = a') (hw : c.wp P Q a' w) : c.wp P Q a w := by subst h; exact hw

theorem frame_same {c₀ : Frame} {u : FrameMode} (h : c₀.mode = u) : c₀ = { c₀ with mode := u } := by subst h; rfl

/-- A Fault's three fields. -/
abbrev faultObj (wh : ByteArray) (err pan : Value) : Obj := .cells #[.string wh, err, pan] 211

/-- What Run tells of what the user's code did. -/
def Told (wh : ByteArray) (e0 e : Ending) (w' : World) : Prop :=
  (e0 = .returned .nilIface ∧ e = .returned .nilIface) ∨
  (∃ D x p, e0 = .returned (.iface D x) ∧ e = .returned (.iface 97 (.pointer (some ⟨p, 0, none⟩))) ∧ w'.heap[p]? = some (faultObj wh (.iface D x) .nilIface)) ∨
  (∃ T x p, e0 = .panicked [{ v := .iface T x, recovered := false }] ∧ e = .returned (.iface 97 (.pointer (some ⟨p, 0, none⟩))) ∧ w'.heap[p]? = some (faultObj wh .nilIface (.iface T x)))

theorem in3 {n k : Nat} (h : k = n ∨ k = n + 1 ∨ k = n + 1 + 1) : n ≤ k ∧ k < n + 3 := by omega

abbrev run3 (w : World) (wh : ByteArray) : World := ((w.alloc (.cells #[.string wh] 9)).alloc (.cells #[.nilIface] 41)).alloc (.cells #[.bool false] 4)

theorem run3_same (w : World) (wh : ByteArray) : Same (fun _ => False) w (run3 w wh) := (((Same.refl _ w).alloc _).alloc _).alloc _
theorem run3_size (w : World) (wh : ByteArray) : (run3 w wh).heap.size = w.heap.size + 3 := by simp

end Go.Proofs.YtgfmemggfbgjeaaGreatDoor
