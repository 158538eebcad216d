/-
  Copies of rows of values: rialtohelp.Copy, schema.Copy. Conditions: none but a bound of the length.
-/
import Derived.Test.YtcbapmkipcffgaaDoorHVals
namespace Go.Proofs.YtcbapmkipcffgaaDoor
open Go.RowKit
set_option maxRecDepth 1000000

theorem copy_any {w : World} {v : Value} {L : List V} (h : ReadV w v L) (hn : L.length ≤ 1000) :
    Calls Tryd.prog 16 #[v] w fun e w' => ∃ u, e = .returned u ∧ w'.ownsRow w.heap.size 38 4 u L.length (vals L) ∧ Same (fun _ => False) w w' := by
  have HR := Lib.hid h; clear h
  go_enter Tryd.func16, Tryd.ntmps16
  go_wp2_with (at_builtin; refine wpList_append_vals w rfl _ _ rfl w.heap.size (.slice none 0 0) 0 [] rfl (World.ownsRow_nil _ _ _ _) v L rfl HR.out ?c3 (Nat.le_refl _) ?_)
  case c3 => omega
  intro u w9 h1 h2 h3
  have hs : Same (fun _ => False) w w9 := h2.narrow (fun k _ e => by cases e)
  have h1' : w9.ownsRow w.heap.size 38 4 u L.length (vals L) := by simpa using h1
  have H1 := Lib.hid h1'; have HS := Lib.hid hs
  clear h1 h2 h3 h1' hs
  go_wp2_with fail
  go_ret
  exact ⟨_, rfl, H1.out, HS.out⟩

theorem slice_nil (n c : Nat) (w : World) : (binOp BinOp.eql 29 (.slice none n c) (.slice none 0 0)).run Tryd.prog w = .ok (.bool true) w := by kernel_rfl
theorem slice_some (a : Addr) (n c : Nat) (w : World) : (binOp BinOp.eql 29 (.slice (some a) n c) (.slice none 0 0)).run Tryd.prog w = .ok (.bool false) w := by kernel_rfl

theorem readV_len {w : World} {v : Value} {L : List V} (h : ReadV w v L) : ∃ ao cap, v = .slice ao L.length cap := by
  obtain ⟨ao, cap, rfl, _⟩ := h
  exact ⟨ao, cap, rfl⟩

theorem own_empty (w : World) : (w.alloc (.cells #[] 38)).ownsRow w.heap.size 38 4 (.slice (some ⟨w.heap.size, 0, none⟩) 0 0) 0 [] :=
  ⟨rfl, Or.inr ⟨w.heap.size, 0, #[], rfl, Nat.le_refl _, heap_alloc_new _ _, Nat.le_refl _, Nat.zero_le _, rfl, rfl⟩⟩

theorem clone0_any {w : World} {v : Value} {L : List V} (h : ReadV w v L) (hn : L.length ≤ 1000) :
    Calls Tryd.prog 84 #[v] w fun e w' => ∃ u, e = .returned u ∧ w'.ownsRow w.heap.size 38 4 u L.length (vals L) ∧ Same (fun _ => False) w w' := by
  have HR := Lib.hid h
  obtain ⟨ao, cap, rfl, hc⟩ := h
  have e0 := slice_nil
  have e1 := slice_some
  cases ao with
  | none =>
    have hL : L = [] := by
      cases L with
      | nil => rfl
      | cons y L =>
        obtain ⟨_, _, e, _⟩ := hc 0 y rfl
        cases e
    subst hL
    clear hc HR
    go_enter Tryd.func84, Tryd.ntmps84
    go_wp2_with fail
    go_ret
    exact ⟨_, rfl, World.ownsRow_nil _ _ _ _, Same.refl _ _⟩
  | some ad =>
    clear hc
    have HA := Lib.hid (HR.out.same ((Same.refl (fun _ => False) w).alloc (.cells #[] 38)))
    go_enter Tryd.func84, Tryd.ntmps84
    go_wp2_with (at_builtin; refine wpList_append_vals (w.alloc (.cells #[] 38)) rfl _ _ rfl w.heap.size (.slice (some ⟨w.heap.size, 0, none⟩) 0 0) 0 [] rfl (own_empty w) (.slice (some ad) L.length cap) L rfl HA.out ?c3 ?c4 ?_)
    case c3 => omega
    case c4 => simp
    intro u w9 h1 h2 h3
    have hs : Same (fun _ => False) w w9 := ((Same.refl (fun _ => False) w).alloc _).trans h2 (fun k hk e => by simp [Value.ownBlock] at e; omega)
    have h1' : w9.ownsRow w.heap.size 38 4 u L.length (vals L) := by simpa using h1
    have H1 := Lib.hid h1'; have HS := Lib.hid hs
    clear h1 h2 h3 h1' hs
    go_wp2_with fail
    go_ret
    exact ⟨_, rfl, H1.out, HS.out⟩

theorem clone_any {w : World} {v : Value} {L : List V} (h : ReadV w v L) (hn : L.length ≤ 1000) :
    Calls Tryd.prog 54 #[v] w fun e w' => ∃ u, e = .returned u ∧ w'.ownsRow w.heap.size 38 4 u L.length (vals L) ∧ Same (fun _ => False) w w' := by
  have HR := Lib.hid (clone0_any h hn); clear h
  go_enter Tryd.func54, Tryd.ntmps54
  go_wp2_with fail
  refine HR.out.mono ?_
  rintro e w' ⟨u, rfl, h1, h2⟩
  have H1 := Lib.hid h1; have H2 := Lib.hid h2
  clear h1 h2
  go_wp2_with fail
  go_ret
  exact ⟨_, rfl, H1.out, H2.out⟩

end Go.Proofs.YtcbapmkipcffgaaDoor
