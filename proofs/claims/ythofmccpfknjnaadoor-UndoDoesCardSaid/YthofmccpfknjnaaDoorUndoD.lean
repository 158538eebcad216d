/-
  The log of package undo: what is written elsewhere leaves it alone; the statements' own first look ('known') answers true. Conditions: none on inputs.
-/
import Derived.Test.YthofmccpfknjnaaDoorUndoC
namespace Go.Proofs.YthofmccpfknjnaaDoor
open Go.RowKit

theorem LogAtR.kept {w w' : World} {B R p : Nat} {fs : List Value} (h : LogAtR w B R p fs)
    (hk : ∀ k, k < w.heap.size → (k = p ∨ (R ≤ k ∧ ∃ cur, w.heap[k]? = some (.cells cur 1 (0, 0)))) → w'.heap[k]? = w.heap[k]?) : LogAtR w' B R p fs := by
  obtain ⟨hBp, hBR, v, hv, hl, h2⟩ := h
  refine ⟨hBp, hBR, v, (hk p (lt_of_block hv) (Or.inl rfl)).trans hv, hl, ?_⟩
  rcases h2 with h2 | ⟨g, cap, cur, r1, r2, hh, r3⟩
  · exact Or.inl h2
  · exact Or.inr ⟨g, cap, cur, r1, r2, (hk g (lt_of_block hh) (Or.inr ⟨r2, cur, hh⟩)).trans hh, r3⟩

theorem LogAtR.alloc {w : World} {B R p : Nat} {fs : List Value} (h : LogAtR w B R p fs) (o : Obj) : LogAtR (w.alloc o) B R p fs :=
  h.kept fun _ hk _ => Below.heap_alloc _ _ _ hk

theorem LogAtR.setCell {w : World} {B R p b i : Nat} {fs : List Value} {o : Obj} (h : LogAtR w B R p fs) (hb : w.heap[b]? = some o) (hp : b ≠ p) (ho : ∀ cur, o ≠ .cells cur 1 (0, 0)) (u : Value) : LogAtR (w.setCell ⟨b, i, none⟩ u) B R p fs :=
  h.kept fun _ _ hk => Below.heap_setCell _ _ _ _ (fun e => by
    subst e
    rcases hk with hk | ⟨_, cur, hk⟩
    · exact hp hk
    · exact ho cur (Option.some.inj (hb.symm.trans hk)))

theorem One.kept {B R p b : Nat} {w w' : World} {v : Value} {t : TypeId} (h : One w b v t) (hk : LogKeptR B R p w w') (hp : b ≠ p) (ht : t ≠ 1) : One w' b v t :=
  hk.one h hp (fun cur e => by cases e; exact ht rfl)

theorem known1_any {w : World} {b : Nat} (s : ByteArray) (hs : s.size ≤ 10) (h : One w b (.string s) 9) :
    Calls Tryd.prog 13 #[.pointer (some ⟨b, 0, none⟩)] w fun e w' => e = .returned (.tuple #[]) ∧ w' = w.setCell ⟨b, 0, none⟩ (.string (s ++ ⟨#[97]⟩)) := by
  have c0 := cell_of_one h
  have f0 := free_of_one h
  clear h
  go_enter Tryd.func13, Tryd.ntmps13
  go_wp2
  go_end0
  exact ⟨rfl, rfl⟩

theorem known2_any {w : World} {b : Nat} (s : ByteArray) (hs : s.size ≤ 10) (h : One w b (.string s) 9) :
    Calls Tryd.prog 14 #[.pointer (some ⟨b, 0, none⟩)] w fun e w' => e = .returned (.tuple #[]) ∧ w' = w.setCell ⟨b, 0, none⟩ (.string (s ++ ⟨#[98]⟩)) := by
  have c0 := cell_of_one h
  have f0 := free_of_one h
  clear h
  go_enter Tryd.func14, Tryd.ntmps14
  go_wp2
  go_end0
  exact ⟨rfl, rfl⟩

theorem known1_calls (cap : Array Value) (w : World) : (callFunc 13 cap).run Tryd.prog w = .ok (.enter 13 cap) w := by kernel_rfl
theorem known2_calls (cap : Array Value) (w : World) : (callFunc 14 cap).run Tryd.prog w = .ok (.enter 14 cap) w := by kernel_rfl

def knownF (n b : Nat) : Value := .func (.func n) #[] #[.pointer (some ⟨b, 0, none⟩)]

/-- What is left to call, and what the captured text then is. -/
def KnownJ (w0 : World) (B b : Nat) (gs : List Value) (w : World) : Prop :=
  Below B w0 w ∧ ∃ s : ByteArray, One w b (.string s) 9 ∧
    ((gs = [knownF 13 b, knownF 14 b] ∧ s = ⟨#[]⟩) ∨ (gs = [knownF 13 b] ∧ s = ⟨#[98]⟩) ∨ (gs = [] ∧ s = ⟨#[98, 97]⟩))

theorem known_step {w0 : World} {B p b : Nat} (hb : b ≠ p) (hBb : B ≤ b) (gs : List Value) (f : Value) (w : World) (hJ : KnownJ w0 B b (gs ++ [f]) w) (hl : LogAt w B p gs) :
    StepOf B B p (KnownJ w0 B b) gs f w := by
  obtain ⟨hbel, s, hs, h | h | h⟩ := hJ
  · obtain ⟨h1, rfl⟩ := h
    obtain ⟨rfl, h2⟩ := List.append_inj' (t₁ := [f]) (t₂ := [knownF 14 b]) (s₁ := gs) (s₂ := [knownF 13 b]) h1 rfl
    obtain rfl : f = knownF 14 b := by simpa using h2
    refine ⟨_, _, rfl, known2_calls _, (known2_any _ (by decide) hs).mono ?_⟩
    rintro e w' ⟨rfl, rfl⟩
    exact ⟨rfl, ⟨hbel.setCell hBb _, _, hs.setCell _, Or.inr (Or.inl ⟨rfl, rfl⟩)⟩, hl.setCell hs hb (fun cur e => by cases e) _⟩
  · obtain ⟨h1, rfl⟩ := h
    obtain ⟨rfl, h2⟩ := List.append_inj' (t₁ := [f]) (t₂ := [knownF 13 b]) (s₁ := gs) (s₂ := []) h1 rfl
    obtain rfl : f = knownF 13 b := by simpa using h2
    refine ⟨_, _, rfl, known1_calls _, (known1_any _ (by decide) hs).mono ?_⟩
    rintro e w' ⟨rfl, rfl⟩
    exact ⟨rfl, ⟨hbel.setCell hBb _, _, hs.setCell _, Or.inr (Or.inr ⟨rfl, rfl⟩)⟩, hl.setCell hs hb (fun cur e => by cases e) _⟩
  · obtain ⟨h1, _⟩ := h
    simp at h1

set_option maxHeartbeats 400000 in
theorem known_any (w : World) : Calls Tryd.prog 4 #[] w fun e w' => e = .returned (.bool true) ∧ Below w.heap.size w w' := by
  go_enter Tryd.func4, Tryd.ntmps4
  go_wp2_with fail
  refine (new_any w).mono ?_
  rintro e w1 ⟨rfl, rfl⟩
  go_wp2_with fail
  have hl0 : LogAt ((w.alloc (.cells #[.slice none 0 0] 39)).alloc (.cells #[.string ⟨#[]⟩] 9)) w.heap.size w.heap.size [] := (log_new w (Nat.le_refl _)).alloc _
  have ho0 : One ((w.alloc (.cells #[.slice none 0 0] 39)).alloc (.cells #[.string ⟨#[]⟩] 9)) (w.heap.size + 1) (.string ⟨#[]⟩) 9 := by
    have := heap_alloc_new (w.alloc (.cells #[.slice none 0 0] 39)) (.cells #[.string ⟨#[]⟩] 9)
    simpa [One] using this
  have hb0 : Below w.heap.size w ((w.alloc (.cells #[.slice none 0 0] 39)).alloc (.cells #[.string ⟨#[]⟩] 9)) := ((Below.refl _ _).alloc (Nat.le_refl _) _).alloc (by simp) _
  refine (add_any hl0 (by simp; omega) (by simp) _ _).mono ?_
  rintro e w1 ⟨rfl, hl1, hk1⟩
  have ho1 := ho0.kept hk1 (by omega) (by decide)
  have hb1 := hb0.trans hk1.below
  have hs1 : w.heap.size ≤ w1.heap.size := hb1.size
  have c1 := cell_of_one ho1
  have HL1 := Lib.hid hl1; have HO1 := Lib.hid ho1; have HB1 := Lib.hid hb1
  clear hl0 ho0 hb0 hl1 hk1 ho1 hb1
  go_wp2_with fail
  refine (add_any HL1.out hs1 (by simp) _ _).mono ?_
  rintro e w2 ⟨rfl, hl2, hk2⟩
  have ho2 := HO1.out.kept hk2 (by omega) (by decide)
  have hb2 := HB1.out.trans hk2.below
  clear c1
  have HL2 := Lib.hid hl2; have HO2 := Lib.hid ho2; have HB2 := Lib.hid hb2
  clear hl2 hk2 ho2 hb2
  go_wp2_with fail
  refine (mark_any HL2.out).mono ?_
  rintro e w2' ⟨rfl, rfl⟩
  go_wp2_with fail
  refine (back_yes (KnownJ w w.heap.size (w.heap.size + 1)) 0 _ (fun gs f w3 _ _ hJ hl => known_step (by omega) (by omega) gs f w3 hJ hl) (fun gs w3 w4 hJ hk => ?_) w2 ?_ HL2.out (by simp) (by simp)).mono ?_
  · obtain ⟨h1, s, h2, h3⟩ := hJ
    exact ⟨h1.trans hk.below, s, h2.kept hk (by omega) (by decide), h3⟩
  · exact ⟨HB2.out, _, HO2.out, Or.inl ⟨rfl, rfl⟩⟩
  rintro e w3 ⟨rfl, hJ3, hl3⟩
  have hj := hJ3
  obtain ⟨hb3, s, ho3, hs3⟩ := hj
  rw [List.take_zero] at hs3 hl3
  obtain rfl : s = ⟨#[98, 97]⟩ := by
    rcases hs3 with h | h | h
    · simp at h
    · simp at h
    · exact h.2
  have c3 := cell_of_one ho3
  have HL3 := Lib.hid hl3; have HB3 := Lib.hid hb3
  clear hl3 hb3 hs3 hJ3 ho3
  go_wp2_with fail
  refine (len_any HL3.out).mono ?_
  rintro e w3' ⟨rfl, rfl⟩
  go_wp2_with fail
  refine (back_no HL3.out 1 (by simp)).mono ?_
  rintro e w3' ⟨rfl, rfl⟩
  go_wp2_with fail
  go_ret
  exact ⟨rfl, HB3.out⟩

end Go.Proofs.YthofmccpfknjnaaDoor
