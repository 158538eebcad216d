/-
  A tree as a whole: Slice of all, Writes, New. Conditions: few elements.
-/
import Derived.Test.YtelgbigpfiohfaaTreeCut2
namespace Go.Proofs.Ytelgbigpfiohfaa
open Go.RowKit Go.Extern.Stop Go.Stop Go.Extern Go.Lib
set_option maxRecDepth 1000000

set_option maxHeartbeats 8000000 in
theorem tree_all {w : World} {P : Nat → Prop} {t : Nat} {L : List Int} {c : Int} (h : TreeIs w P t L c) (hL : L.length ≤ 90000) :
    Calls Try.prog 38 #[.pointer (some ⟨t, 0, none⟩), .int .i64 0, .int .i64 L.length] w fun e w' => ∃ v, e = .returned v ∧ w'.ownsRow w.heap.size 2 1 v L.length (intsV L) ∧ Same (fun _ => False) w w' := by
  have HLEN := Lib.hid (tree_len h)
  by_cases h0 : L.length = 0
  · have hL0 : L = [] := List.length_eq_zero_iff.1 h0
    subst hL0
    clear h h0
    go_enter Try.func38, Try.ntmps38
    go_wp2_with fail
    refine HLEN.out.mono ?_
    rintro e w0 ⟨rfl, rfl⟩
    go_wp2_with fail
    go_ret
    exact ⟨_, rfl, World.ownsRow_nil _ _ _ _, Same.refl _ _⟩
  · obtain ⟨n, b, s, hh, hn, hs0, h2⟩ := h.some (by omega)
    obtain ⟨g0, g1, gf⟩ := head_cells hh
    have hlt := lt_of_block hh
    have hn' : NodeAt w (fun q => q < w.heap.size) n b s L := hn.mono (fun k hk _ => hk)
    have HG := Lib.hid (gather_any n (O := []) (o := .slice none 0 0) (f := 0) (u := L.length) hn' hs0 (by omega) (by simp; omega) (World.ownsRow_nil _ _ _ _) (Nat.le_refl _) (by omega) (by omega) (by omega) (by omega))
    have hpos : ¬ ((L.length : Int) ≤ 0) := by omega
    have hne : ¬ (L = []) := fun e => by rw [e] at h0; exact h0 rfl
    clear h h0 hh hn hn' g1 gf h2
    go_enter Try.func38, Try.ntmps38
    go_wp2_with fail
    refine HLEN.out.mono ?_
    rintro e w0 ⟨rfl, rfl⟩
    go_wp2_with fail
    refine HG.out.mono ?_
    rintro e w1 ⟨v, rfl, ho, hs⟩
    rw [List.nil_append] at ho
    have HO := Lib.hid ho; have HS := Lib.hid (show Same (fun _ => False) w w1 from ⟨hs.os, hs.tape, hs.output, hs.size, fun k hk _ => hs.block k hk (by omega)⟩)
    clear ho hs
    go_wp2_with fail
    go_ret
    exact ⟨_, rfl, HO.out, HS.out⟩

theorem tree_writes {w : World} {P : Nat → Prop} {t : Nat} {L : List Int} {c : Int} (h : TreeIs w P t L c) : Calls Try.prog 44 #[.pointer (some ⟨t, 0, none⟩)] w fun e w' => e = .returned (.int .i64 c) ∧ w = w' := by
  obtain ⟨r, hh⟩ := h.head
  obtain ⟨g0, g1, gf⟩ := head_cells hh
  have hlt := lt_of_block hh
  clear h hh g0 gf
  go_enter Try.func44, Try.ntmps44
  go_wp2_with fail
  go_ret
  exact ⟨rfl, rfl⟩

theorem tree_new (w : World) : Calls Try.prog 30 #[] w fun e w' => ∃ t, e = .returned (.pointer (some ⟨t, 0, none⟩)) ∧ w.heap.size ≤ t ∧ TreeIs w' (fun k => w.heap.size ≤ k) t [] 0 ∧ Same (fun _ => False) w w' := by
  go_enter Try.func30, Try.ntmps30
  go_wp2_with fail
  go_ret
  exact ⟨_, rfl, Nat.le_refl _, ⟨Nat.le_refl _, Or.inl ⟨rfl, heap_alloc_new w _⟩⟩, (Same.refl _ w).alloc _⟩

end Go.Proofs.Ytelgbigpfiohfaa
