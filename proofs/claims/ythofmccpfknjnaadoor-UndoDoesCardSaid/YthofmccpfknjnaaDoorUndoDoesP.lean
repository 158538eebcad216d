/-
  The statement UndoDoes: what the log and the list of what was called hold together. Conditions: none.
-/
import Derived.Test.YthofmccpfknjnaaDoorUndoD
import Derived.Test.YthofmccpfknjnaaDoorUndoDoP
import Derived.Test.YthofmccpfknjnaaDoorSep
import Derived.Deep.QuietTactic
import Derived.BigQuiet
namespace Go.Proofs.YthofmccpfknjnaaDoor
open Go.RowKit

abbrev ints (l : List Int) : List Value := l.map (Value.int .i64)

theorem int64_info : (Tryd.prog.info? 2).map (fun i => (i.zero, i.size, i.bytes)) = some (some (.int .i64 0), 1, 8) := by kernel_rfl

/-- What the statement holds beside the log (block p). X: the blocks of the numbers of the steps that are in the log; M: these numbers; G: what was called; W: what should have been; N: the list that is kept beside. -/
structure PInv (w0 : World) (B p gb : Nat) (wv mv : Value) (N W : List Int) (X : List Nat) (M G : List Int) (w : World) : Prop where
  below : Below B w0 w
  gbB : B ≤ gb
  XB : ∀ b ∈ p :: X, B ≤ b
  size : B ≤ w.heap.size
  len : X.length = M.length
  xs : ∀ (j b : Nat) (x : Int), X[j]? = some b → M[j]? = some x → One w b (.int .i64 x) 2
  lt : ∀ b ∈ p :: X, b < w.heap.size
  gp : gb ≠ p
  Xp : ∀ b ∈ X, b ≠ p
  got : ∃ gv, One w gb gv 25 ∧ w.ownsRow B 2 1 gv G.length (ints G) ∧ (∀ b ∈ p :: X, gv.ownBlock ≠ some b) ∧ Apart gv wv ∧ Apart gv mv
  want : w.ownsRow B 2 1 wv W.length (ints W)
  m : w.ownsRow B 2 1 mv N.length (ints N)
  xw : ∀ b ∈ p :: X, wv.ownBlock ≠ some b
  xm : ∀ b ∈ p :: X, mv.ownBlock ≠ some b
  wm : Apart wv mv
  room : M.length + G.length ≤ 200

def playF (gb b : Nat) : Value := .func (.func 10) #[] #[.pointer (some ⟨gb, 0, none⟩), .pointer (some ⟨b, 0, none⟩)]

theorem plays1_calls (cap : Array Value) (w : World) : (callFunc 10 cap).run Tryd.prog w = .ok (.enter 10 cap) w := by kernel_rfl

/-- One call of a step: its number goes behind the others. -/
theorem plays1_any {w : World} {B gb b : Nat} {gv : Value} {G : List Int} {x : Int} (hg : One w gb gv 25) (hown : w.ownsRow B 2 1 gv G.length (ints G)) (hb : One w b (.int .i64 x) 2)
    (hB : B ≤ w.heap.size) (hn : G.length ≤ 1000) :
    Calls Tryd.prog 10 #[.pointer (some ⟨gb, 0, none⟩), .pointer (some ⟨b, 0, none⟩)] w fun e w' => e = .returned (.tuple #[]) ∧
      ∃ gv', One w' gb gv' 25 ∧ w'.ownsRow B 2 1 gv' (G.length + 1) (ints G ++ [.int .i64 x]) ∧ (∀ k, gv'.ownBlock = some k → gv.ownBlock = some k ∨ w.heap.size ≤ k) ∧
        Same (fun k => k = gb ∨ gv.ownBlock = some k) w w' := by
  have c0 := hg.cell
  have c1 := hb.cell
  have hne := own_ne hown hg (by decide)
  have HG := Lib.hid hg; have HN := Lib.hid hne
  have HB := Lib.hid hb
  have hgl := hg.lt
  clear hg hb hne
  go_enter Tryd.func10, Tryd.ntmps10
  go_wp2_with (at_builtin; refine wpList_append_elem w rfl _ _ 25 rfl B 2 (.int .i64 0) 1 8 Tryd.underlying25 int64_info rfl (by decide) gv G.length (ints G) rfl hown [.int .i64 x] _ rfl rfl ?c1 ?c2 ?c3 ?c4 ?_)
  case c1 => intro u hu; simp at hu; subst hu; rfl
  case c2 => unfold maxLen; omega
  case c3 => omega
  case c4 => exact hB
  intro g cap w1 hown1 hgrow1 hwhere hg1 hs1
  have ho1 : One w1 gb gv 25 := grownBy_one hgrow1 HG.out HN.out
  have f1 := ho1.free
  have c1' := ho1.cell
  have HO1 := Lib.hid ho1; have HW1 := Lib.hid hown1; have HGR := Lib.hid hgrow1; have HWH := Lib.hid hwhere
  have hgg : g ≠ gb := by
    intro e
    rcases hwhere with h | h
    · exact HN.out (by rw [h, e])
    · omega
  have HGG := Lib.hid hgg
  clear ho1 hown1 hgrow1 hwhere hgg c0 c1
  go_wp2
  go_end0
  refine ⟨rfl, _, HO1.out.setCell _, ownsRow_setCell_other HW1.out (a := ⟨gb, 0, none⟩) (by simpa [Value.ownBlock] using HGG.out) _, fun k hk => ?_, ?_⟩
  · simp only [Value.ownBlock, Option.some.injEq] at hk
    subst hk
    exact HWH.out
  · exact ((Same.refl (fun k => k = gb ∨ gv.ownBlock = some k) w).grown HGR.out (fun k hk _ => Or.inr hk)).setCell (p := ⟨gb, 0, none⟩) (fun _ => Or.inl rfl) _

theorem PInv.one_ne {w0 : World} {B p gb : Nat} {wv mv : Value} {N W : List Int} {X : List Nat} {M G : List Int} {w : World} (h : PInv w0 B p gb wv mv N W X M G w) {b : Nat} (hb : b ∈ X) : b ≠ gb := by
  obtain ⟨j, hj, e⟩ := List.getElem_of_mem hb
  have hjM : j < M.length := h.len ▸ hj
  have h1 := h.xs j b M[j] (by rw [List.getElem?_eq_getElem hj, e]) (by rw [List.getElem?_eq_getElem hjM])
  obtain ⟨gv, h2, _⟩ := h.got
  intro e2
  subst e2
  have := h1.symm.trans h2
  simp at this

theorem ints_snoc (l : List Int) (x : Int) : ints (l ++ [x]) = ints l ++ [.int .i64 x] := by simp [ints]

/-- What a method of the log leaves. -/
theorem PInv.kept {w0 : World} {B p gb : Nat} {wv mv : Value} {N W : List Int} {X : List Nat} {M G : List Int} {w w' : World} (h : PInv w0 B p gb wv mv N W X M G w) (hk : LogKept B p w w') : PInv w0 B p gb wv mv N W X M G w' := by
  have hrow : ∀ {v : Value} {n : Nat} {xs : List Value}, w.ownsRow B 2 1 v n xs → v.ownBlock ≠ some p → w'.ownsRow B 2 1 v n xs := by
    intro v n xs hv hp
    obtain ⟨h1, h2⟩ := hv
    refine ⟨h1, ?_⟩
    rcases h2 with h2 | ⟨g, cap, cur, rfl, r2, hh, r3⟩
    · exact Or.inl h2
    · exact Or.inr ⟨g, cap, cur, rfl, r2, hk.one hh (fun e => hp (by simp [Value.ownBlock, e])) (fun cur' e => by cases e), r3⟩
  obtain ⟨gv, g1, g2, g3, g4⟩ := h.got
  exact { below := h.below.trans hk.below, gbB := h.gbB, XB := h.XB, size := Nat.le_trans h.size hk.below.size, len := h.len
          xs := fun j b x hj hx => (h.xs j b x hj hx).kept hk (h.Xp b (List.mem_of_getElem? hj)) (by decide)
          lt := fun b hb => Nat.lt_of_lt_of_le (h.lt b hb) hk.below.size
          gp := h.gp, Xp := h.Xp
          got := ⟨gv, g1.kept hk h.gp (by decide), hrow g2 (g3 p (by simp)), g3, g4⟩
          want := hrow h.want (h.xw p (by simp)), m := hrow h.m (h.xm p (by simp)), xw := h.xw, xm := h.xm, wm := h.wm, room := h.room }

/-- Where nothing of it is touched. -/
theorem PInv.same {w0 : World} {B p gb : Nat} {wv mv : Value} {N W : List Int} {X : List Nat} {M G : List Int} {w w' : World} (h : PInv w0 B p gb wv mv N W X M G w) (hs : Same (fun _ => False) w w') : PInv w0 B p gb wv mv N W X M G w' := by
  obtain ⟨gv, g1, g2, g3, g4⟩ := h.got
  exact { below := hs.below h.below h.size (fun _ hk => hk.elim), gbB := h.gbB, XB := h.XB, size := Nat.le_trans h.size hs.size, len := h.len
          xs := fun j b x hj hx => hs.one (h.xs j b x hj hx) id
          lt := fun b hb => Nat.lt_of_lt_of_le (h.lt b hb) hs.size
          gp := h.gp, Xp := h.Xp
          got := ⟨gv, hs.one g1 id, hs.row g2 (fun _ _ => id), g3, g4⟩
          want := hs.row h.want (fun _ _ => id), m := hs.row h.m (fun _ _ => id), xw := h.xw, xm := h.xm, wm := h.wm, room := h.room }

/-- Before any step: the log has just been made, then the list of what was called. -/
theorem PInv.start {w0 w : World} {B p : Nat} (h : Below B w0 w) (hB : B ≤ w.heap.size) (hp : p < w.heap.size) (hBp : B ≤ p) :
    PInv w0 B p w.heap.size (.slice none 0 0) (.slice none 0 0) [] [] [] [] [] (w.alloc (.cells #[.slice none 0 0] 25)) :=
  { below := h.alloc hB _, gbB := hB, XB := fun b hb => by simp at hb; omega, size := by simp; omega, len := rfl, xs := fun j b x hj _ => by simp at hj
    lt := fun b hb => by simp at hb; simp; omega
    gp := by omega, Xp := fun b hb => by simp at hb
    got := ⟨_, One.new _ _ _, World.ownsRow_nil _ _ _ _, fun b _ e => (by cases e), fun k e => (by cases e), fun k e => (by cases e)⟩
    want := World.ownsRow_nil _ _ _ _, m := World.ownsRow_nil _ _ _ _, xw := fun b _ e => (by cases e), xm := fun b _ e => (by cases e), wm := fun k e => (by cases e), room := by simp }

section
variable {w0 : World} {B p gb : Nat} {wv mv : Value} {N W : List Int} {X : List Nat} {M G : List Int} {w w' : World}

/-- A step's number has just been laid. -/
theorem PInv.push (h : PInv w0 B p gb wv mv N W X M G w) (x : Int) (hr : M.length + 1 + G.length ≤ 200) :
    PInv w0 B p gb wv mv N W (X ++ [w.heap.size]) (M ++ [x]) G (w.alloc (.cells #[.int .i64 x] 2)) := by
  have h' := h.same ((Same.refl (fun _ => False) w).alloc (.cells #[.int .i64 x] 2))
  obtain ⟨gv, g1, g2, g3, g4⟩ := h'.got
  obtain ⟨gv0, g10, g20, _⟩ := h.got
  have hmem : ∀ {c : Nat}, c ∈ p :: (X ++ [w.heap.size]) → c ∈ p :: X ∨ c = w.heap.size := fun hc => by
    simp only [List.mem_cons, List.mem_append, List.not_mem_nil, or_false] at hc ⊢
    rcases hc with hc | hc | hc
    · exact Or.inl (Or.inl hc)
    · exact Or.inl (Or.inr hc)
    · exact Or.inr hc
  have hfresh : ∀ {v : Value} {n : Nat} {xs : List Value}, w.ownsRow B 2 1 v n xs → v.ownBlock ≠ some w.heap.size := fun hv hk => by
    have := own_lt hv hk
    omega
  obtain ⟨gv1, g11, g21, g31, g41⟩ := h.got
  have hs := (Same.refl (fun _ => False) w).alloc (.cells #[.int .i64 x] 2)
  exact { below := h'.below, gbB := h'.gbB, size := h'.size, gp := h'.gp, wm := h'.wm, want := h'.want, m := h'.m
          XB := fun c hc => (hmem hc).elim (h'.XB c) (fun e => by subst e; exact h.size)
          len := by simp [h.len]
          xs := fun j c y hj hy => by
            by_cases hjl : j < X.length
            · rw [List.getElem?_append_left hjl] at hj
              rw [List.getElem?_append_left (h.len ▸ hjl)] at hy
              exact h'.xs j c y hj hy
            · have hje : j = X.length := by have := (List.getElem?_eq_some_iff.1 hj).1; simp at this; omega
              subst hje
              simp at hj
              rw [h.len] at hy
              simp at hy
              subst hj; subst hy
              exact One.new _ _ _
          lt := fun c hc => (hmem hc).elim (h'.lt c) (fun e => by subst e; simp)
          Xp := fun c hc => by
            simp only [List.mem_append, List.mem_cons, List.not_mem_nil, or_false] at hc
            rcases hc with hc | hc
            · exact h.Xp c hc
            · subst hc; have := h.lt p (by simp); omega
          got := ⟨gv1, hs.one g11 id, hs.row g21 (fun _ _ => id), fun c hc => (hmem hc).elim (g31 c) (fun e => by subst e; exact hfresh g21), g41⟩
          xw := fun c hc => (hmem hc).elim (h'.xw c) (fun e => by subst e; exact hfresh h.want)
          xm := fun c hc => (hmem hc).elim (h'.xm c) (fun e => by subst e; exact hfresh h.m)
          room := by simp; omega }


end

end Go.Proofs.YthofmccpfknjnaaDoor
