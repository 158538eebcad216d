/-
  The log of package undo, told of memory: what each of its methods does (New, Add, Mark, Len, in, Keep), whatever the steps are. Conditions: none on inputs.
-/
import Derived.Test.YthofmccpfknjnaaDoorRows
import Derived.Test.YthofmccpfknjnaaDoorSep
namespace Go.Proofs.YthofmccpfknjnaaDoor
open Go.RowKit

/-- In world w the log in block p holds the steps fs; all of it lies from block B on, its row from block R on. -/
def LogAtR (w : World) (B R p : Nat) (fs : List Value) : Prop :=
  B ≤ p ∧ B ≤ R ∧ ∃ v, w.heap[p]? = some (.cells #[v] 39 (0, 0)) ∧ w.ownsRow R 1 1 v fs.length fs

abbrev LogAt (w : World) (B p : Nat) (fs : List Value) : Prop := LogAtR w B B p fs

/-- What a method of the log leaves alone: the streams, all below B, each block that is neither the log nor a row of steps from R on. -/
structure LogKeptR (B R p : Nat) (w w' : World) : Prop where
  below : Below B w w'
  block : ∀ k, k < w.heap.size → k ≠ p → (k < R ∨ ∀ cur, w.heap[k]? ≠ some (.cells cur 1 (0, 0))) → w'.heap[k]? = w.heap[k]?

abbrev LogKept (B p : Nat) (w w' : World) : Prop := LogKeptR B B p w w'

theorem LogKeptR.refl (B R p : Nat) (w : World) : LogKeptR B R p w w := ⟨Below.refl _ _, fun _ _ _ _ => rfl⟩

theorem LogKeptR.trans {B R p : Nat} {a b c : World} (h : LogKeptR B R p a b) (k : LogKeptR B R p b c) : LogKeptR B R p a c :=
  ⟨h.below.trans k.below, fun i hi hp hr => by
    have e := h.block i hi hp hr
    rw [k.block i (Nat.lt_of_lt_of_le hi h.below.size) hp (hr.imp_right fun hr cur => by rw [e]; exact hr cur), e]⟩

theorem LogKeptR.one {B R p k : Nat} {w w' : World} (h : LogKeptR B R p w w') {o : Obj} (hk : w.heap[k]? = some o) (hp : k ≠ p) (ho : ∀ cur, o ≠ .cells cur 1 (0, 0)) : w'.heap[k]? = some o :=
  (h.block k (lt_of_block hk) hp (Or.inr fun cur e => ho cur (by rw [hk] at e; exact Option.some.inj e))).trans hk

theorem LogKeptR.low {B R p k : Nat} {w w' : World} (h : LogKeptR B R p w w') {o : Obj} (hk : w.heap[k]? = some o) (hp : k ≠ p) (ho : k < R) : w'.heap[k]? = some o :=
  (h.block k (lt_of_block hk) hp (Or.inl ho)).trans hk

theorem log_info : (Tryd.prog.info? 1).map (fun i => (i.zero, i.size, i.bytes)) = some (some .nilFunc, 1, 8) := by kernel_rfl

theorem new_any (w : World) : Calls Tryd.prog 5 #[] w fun e w' =>
    e = .returned (.pointer (some ⟨w.heap.size, 0, none⟩)) ∧ w' = w.alloc (.cells #[.slice none 0 0] 39) := by
  go_enter Tryd.func5, Tryd.ntmps5
  go_wp2
  go_ret
  exact ⟨rfl, rfl⟩

theorem log_new (w : World) {B : Nat} (hB : B ≤ w.heap.size) : LogAt (w.alloc (.cells #[.slice none 0 0] 39)) B w.heap.size [] :=
  ⟨hB, Nat.le_refl _, .slice none 0 0, heap_alloc_new _ _, World.ownsRow_nil _ _ _ _⟩

theorem log_len {w : World} {B R p : Nat} {fs : List Value} (h : LogAtR w B R p fs) : ∃ ao cap, w.cell? ⟨p, 0, none⟩ = some (.slice ao fs.length cap) := by
  obtain ⟨_, _, v, hv, _, h2⟩ := h
  rcases h2 with ⟨rfl, h0⟩ | ⟨g, cap, cur, rfl, _⟩
  · exact ⟨none, 0, by rw [cell_of_one hv, h0]⟩
  · exact ⟨_, cap, cell_of_one hv⟩

theorem log_cell {w : World} {B R p : Nat} {fs : List Value} (h : LogAtR w B R p fs) : ∃ v, w.cell? ⟨p, 0, none⟩ = some v ∧ w.frozen? ⟨p, 0, none⟩ = false :=
  let ⟨_, _, v, hv, _⟩ := h
  ⟨v, cell_of_one hv, free_of_one hv⟩

theorem len_any {w : World} {B R p : Nat} {fs : List Value} (h : LogAtR w B R p fs) : Calls Tryd.prog 11 #[.pointer (some ⟨p, 0, none⟩)] w fun e w' =>
    e = .returned (.int .i64 fs.length) ∧ w = w' := by
  obtain ⟨ao, cap, hc⟩ := log_len h
  clear h
  go_enter Tryd.func11, Tryd.ntmps11
  go_wp2
  go_ret
  exact ⟨rfl, rfl⟩

theorem mark_any {w : World} {B R p : Nat} {fs : List Value} (h : LogAtR w B R p fs) : Calls Tryd.prog 15 #[.pointer (some ⟨p, 0, none⟩)] w fun e w' =>
    e = .returned (.int .i64 fs.length) ∧ w = w' := by
  obtain ⟨ao, cap, hc⟩ := log_len h
  clear h
  go_enter Tryd.func15, Tryd.ntmps15
  go_wp2
  go_ret
  exact ⟨rfl, rfl⟩

theorem in_any {w : World} {B R p : Nat} {fs : List Value} (h : LogAtR w B R p fs) (m : Int) : Calls Tryd.prog 20 #[.pointer (some ⟨p, 0, none⟩), .int .i64 m] w fun e w' =>
    e = .returned (.bool (decide (0 ≤ m ∧ m ≤ fs.length))) ∧ w = w' := by
  obtain ⟨ao, cap, hc⟩ := log_len h
  clear h
  by_cases h0 : 0 ≤ m
  · go_enter Tryd.func20, Tryd.ntmps20
    go_wp2
    go_ret
    exact ⟨by simp [h0], rfl⟩
  · go_enter Tryd.func20, Tryd.ntmps20
    go_wp2
    go_ret
    exact ⟨by simp; omega, rfl⟩

theorem in_yes {w : World} {B R p : Nat} {fs : List Value} (h : LogAtR w B R p fs) (m : Int) (h0 : 0 ≤ m) (h1 : m ≤ fs.length) : Calls Tryd.prog 20 #[.pointer (some ⟨p, 0, none⟩), .int .i64 m] w fun e w' =>
    e = .returned (.bool true) ∧ w = w' :=
  (in_any h m).mono fun e w' ⟨he, hw⟩ => ⟨by rw [he, decide_eq_true ⟨h0, h1⟩], hw⟩

theorem in_no {w : World} {B R p : Nat} {fs : List Value} (h : LogAtR w B R p fs) (m : Int) (hm : ¬ (0 ≤ m ∧ m ≤ fs.length)) : Calls Tryd.prog 20 #[.pointer (some ⟨p, 0, none⟩), .int .i64 m] w fun e w' =>
    e = .returned (.bool false) ∧ w = w' :=
  (in_any h m).mono fun e w' ⟨he, hw⟩ => ⟨by rw [he, decide_eq_false hm], hw⟩

theorem add_any {w : World} {B R p : Nat} {fs : List Value} (h : LogAtR w B R p fs) (hB : R ≤ w.heap.size) (hn : fs.length ≤ 1000000) (f : Fn) (c : Array Value) :
    Calls Tryd.prog 6 #[.pointer (some ⟨p, 0, none⟩), .func f #[] c] w fun e w' =>
      e = .returned (.tuple #[]) ∧ LogAtR w' B R p (fs ++ [.func f #[] c]) ∧ LogKeptR B R p w w' := by
  obtain ⟨hBp, hBR, v, hv, hown⟩ := h
  have cP := cell_of_one hv
  obtain ⟨i0, hi, hz0, hz1, hz2⟩ := info_parts log_info
  have HV := Lib.hid hv; clear hv
  have hp := lt_of_block HV.out
  go_enter Tryd.func6, Tryd.ntmps6
  go_wp2_with (at_builtin; refine wpList_append_own _ rfl _ _ 37 rfl R 1 i0 .nilFunc 1 8 Tryd.underlying37 hi hz0 hz1 hz2 rfl (by decide) v fs.length fs rfl (hown.alloc _) ⟨w.heap.size, 0, none⟩ 1 1 [.func f #[] c] rfl rfl ?c1 ?c2 ?c3 ?c4 ?c5 ?_)
  case c1 =>
    intro j u hj
    match j, hj with
    | 0, hj => simp at hj; subst hj; simp [Addr.add]
  case c2 => intro u hu; simp at hu; subst hu; rfl
  case c3 => unfold maxLen; omega
  case c4 => omega
  case c5 => simp; omega
  intro v' w1 hown1 hgrow1 _
  have hvp : v.ownBlock ≠ some p := by
    intro e
    obtain ⟨_, h2⟩ := hown
    rcases h2 with ⟨rfl, _⟩ | ⟨g, cap, cur, rfl, _, hh, _⟩
    · cases e
    · simp only [Value.ownBlock, Option.some.injEq] at e
      subst e
      rw [HV.out] at hh
      simp at hh
  have hv1 : w1.heap[p]? = some (.cells #[v] 39 (0, 0)) := by
    rw [hgrow1.block p (by simp; omega) (fun e => hvp e.symm), Below.heap_alloc _ _ _ hp]
    exact HV.out
  have c1 := cell_of_one hv1
  have f1 := free_of_one hv1
  have hs : w.heap.size < w1.heap.size := by have := hgrow1.size; simp at this; omega
  have hk : LogKeptR B R p w w1 := ⟨((Below.refl B w).alloc (by omega) _).grown hgrow1 (by simp; omega) (fun j hj => Nat.le_trans hBR (hown.lt j hj).1), fun k hk hkp hr => by
    rw [hgrow1.block k (by simp; omega) ?_, Below.heap_alloc _ _ _ hk]
    intro e
    have hlt := hown.lt
    obtain ⟨_, h2⟩ := hown
    rcases h2 with ⟨rfl, _⟩ | ⟨g, cap, cur, rfl, _, hh, _⟩
    · cases e
    · simp only [Value.ownBlock, Option.some.injEq] at e
      subst e
      rcases hr with hr | hr
      · have := (hlt _ rfl).1
        omega
      · exact hr _ hh⟩
  have H1 := Lib.hid hv1; clear hv1
  have H2 := Lib.hid hown1; clear hown1
  have H3 := Lib.hid hgrow1; clear hgrow1
  have hex : v' = .slice none 0 0 ∨ ∃ g cap, v' = .slice (some ⟨g, 0, none⟩) (fs.length + 1) cap ∧ R ≤ g ∧ ∃ cur, w1.heap[g]? = some (.cells cur 1 (0, 0)) := by
    obtain ⟨_, h2⟩ := H2.out
    rcases h2 with ⟨_, h0⟩ | ⟨g, cap, cur, hv', hg, hh, _⟩
    · omega
    · exact Or.inr ⟨g, cap, hv', hg, cur, hh⟩
  rcases hex with hv' | ⟨g, cap, hv', hg, cur, hh⟩
  · exact absurd hv' ‹_›
  have H4 := Lib.hid hh; clear hh
  have H2' := H2.out
  rw [hv'] at H2' ⊢
  have H5 := Lib.hid H2'; clear H2'
  clear hv'
  go_wp2
  go_end0
  have hgp : g ≠ p := fun e => by subst e; have := H4.out; rw [H1.out] at this; simp at this
  refine ⟨rfl, ⟨hBp, hBR, _, one_setCell H1.out, ?_⟩, hk.trans ⟨(Below.refl B w1).setCell hBp _, fun k _ hkp _ => Below.heap_setCell _ _ _ _ hkp⟩⟩
  simpa using ownsRow_setCell_other H5.out (a := ⟨p, 0, none⟩) (by simpa [Value.ownBlock] using hgp) _

end Go.Proofs.YthofmccpfknjnaaDoor
