/-
  The statement UndoDoes: what each step that is taken back does; what is held beside. Conditions: none.
-/
import Derived.Test.YthofmccpfknjnaaDoorUndoDoesP
namespace Go.Proofs.YthofmccpfknjnaaDoor
open Go.RowKit

/-- Blocks that stay as they are: each of one cell, of none of the types that turn. -/
def Stays (p : Nat) (Cs : List (Nat × Obj)) (w : World) : Prop := ∀ x ∈ Cs, w.heap[x.1]? = some x.2 ∧ x.1 ≠ p ∧ ∃ v t, x.2 = .cells #[v] t (0, 0) ∧ t ≠ 2 ∧ t ≠ 25 ∧ t ≠ 1

theorem Stays.kept {B p : Nat} {Cs : List (Nat × Obj)} {w w' : World} (h : Stays p Cs w) (hk : LogKept B p w w') : Stays p Cs w' := fun x hx => by
  obtain ⟨h1, h2, v, t, h3, h4, h5, h6⟩ := h x hx
  exact ⟨hk.one h1 h2 (fun cur e => by rw [h3] at e; cases e; exact h6 rfl), h2, v, t, h3, h4, h5, h6⟩

theorem Stays.same {F : Nat → Prop} {p : Nat} {Cs : List (Nat × Obj)} {w w' : World} (h : Stays p Cs w) (hs : Same F w w') (hn : ∀ x ∈ Cs, ¬ F x.1) : Stays p Cs w' := fun x hx => by
  obtain ⟨h1, h2, h3⟩ := h x hx
  exact ⟨hs.obj h1 (hn x hx), h2, h3⟩

theorem Stays.one {p b : Nat} {v : Value} {t : TypeId} {Cs : List (Nat × Obj)} {w : World} (h : Stays p Cs w) (hm : (b, Obj.cells #[v] t (0, 0)) ∈ Cs) : One w b v t := (h _ hm).1

theorem Stays.less {p : Nat} {Cs Ds : List (Nat × Obj)} {w : World} (h : Stays p Cs w) (hd : ∀ x ∈ Ds, x ∈ Cs) : Stays p Ds w := fun x hx => h x (hd x hx)

def oneF (gb : Nat) : Value := .func (.func 7) #[] #[.pointer (some ⟨gb, 0, none⟩)]

def DoesJ (w0 : World) (B p gb a : Nat) (K : List Int) (Cs : List (Nat × Obj)) (gs : List Value) (w : World) : Prop :=
  ∃ X M G, gs = List.replicate a (oneF gb) ++ X.map (playF gb) ∧ PInv w0 B p gb (.slice none 0 0) (.slice none 0 0) [] [] X M G w ∧ G ++ M.reverse = K ∧ Stays p Cs w

theorem DoesJ.stab {w0 : World} {B p gb a : Nat} {K : List Int} {Cs : List (Nat × Obj)} {gs : List Value} {w w' : World} (hJ : DoesJ w0 B p gb a K Cs gs w) (hk : LogKept B p w w') : DoesJ w0 B p gb a K Cs gs w' :=
  let ⟨X, M, G, e, hP, hK, hS⟩ := hJ
  ⟨X, M, G, e, hP.kept hk, hK, hS.kept hk⟩

theorem does_step {w0 : World} {B p gb a : Nat} {K : List Int} {Cs : List (Nat × Obj)} (gs : List Value) (f : Value) (w : World) (ha : a ≤ gs.length) (hJ : DoesJ w0 B p gb a K Cs (gs ++ [f]) w) (hl : LogAt w B p gs) :
    StepOf B B p (DoesJ w0 B p gb a K Cs) gs f w := by
  obtain ⟨X, M, G, e, hP, hK, hS⟩ := hJ
  obtain ⟨X', b, rfl⟩ : ∃ X' b, X = X' ++ [b] := by
    rcases List.eq_nil_or_concat X with h | ⟨X', b, h⟩
    · subst h
      have := congrArg List.length e
      simp at this
      omega
    · exact ⟨X', b, by simpa using h⟩
  rw [List.map_append, ← List.append_assoc] at e
  obtain ⟨e1, e2⟩ := List.append_inj' e rfl
  obtain rfl : f = playF gb b := by simpa using e2
  have hlen := hP.len
  obtain ⟨M', x, rfl⟩ : ∃ M' x, M = M' ++ [x] := by
    rcases List.eq_nil_or_concat M with h | ⟨M', x, h⟩
    · subst h; simp at hlen
    · exact ⟨M', x, by simpa using h⟩
  have hlen' : X'.length = M'.length := by simpa using hlen
  obtain ⟨gv, g1, g2, g3, g4, g5⟩ := hP.got
  have hroom := hP.room
  simp only [List.length_append, List.length_cons, List.length_nil, Nat.zero_add] at hroom
  have hb : One w b (.int .i64 x) 2 := hP.xs X'.length b x (by simp) (by rw [hlen']; simp)
  refine ⟨_, _, rfl, plays1_calls _, (plays1_any g1 g2 hb hP.size (by omega)).mono ?_⟩
  rintro e w' ⟨rfl, gv', o1, o2, o3, hs⟩
  have hnot : ∀ k, (k = gb ∨ gv.ownBlock = some k) → B ≤ k := fun k hk => by
    rcases hk with rfl | hk
    · exact hP.gbB
    · exact (g2.lt k hk).1
  have hrow : ∀ {v : Value} {n : Nat} {xs : List Value}, w.ownsRow B 2 1 v n xs → Apart gv v → w'.ownsRow B 2 1 v n xs := fun hv ha =>
    hs.row hv (fun k hk hn => by
      rcases hn with rfl | hn
      · exact own_ne hv g1 (by decide) hk
      · exact ha k hn hk)
  have hmem : ∀ c ∈ X', c ∈ X' ++ [b] := fun c hc => by simp [hc]
  have hmem' : ∀ c ∈ p :: X', c ∈ p :: (X' ++ [b]) := fun c hc => by
    simp only [List.mem_cons] at hc ⊢
    exact hc.imp_right (hmem c)
  have hapart : ∀ {v : Value} {n : Nat} {xs : List Value}, w.ownsRow B 2 1 v n xs → Apart gv v → Apart gv' v := fun hv ha k hk hk' => by
    rcases o3 k hk with h | h
    · exact ha k h hk'
    · have := own_lt hv hk'
      omega
  refine ⟨rfl, ⟨X', M', G ++ [x], e1, ?_, by simpa using hK, hS.same hs fun y hy hn => ?_⟩, hl.kept fun k hk hkp => hs.block k hk ?_⟩
  · exact { below := hs.below hP.below hP.size hnot, gbB := hP.gbB, XB := fun c hc => hP.XB c (hmem' c hc), size := Nat.le_trans hP.size hs.size, len := hlen'
            xs := fun j c y hj hy => hs.one (hP.xs j c y (by rw [List.getElem?_append_left (List.getElem?_eq_some_iff.1 hj).1]; exact hj) (by rw [List.getElem?_append_left (List.getElem?_eq_some_iff.1 hy).1]; exact hy)) (fun hn => by
              have hc : c ∈ X' := List.mem_of_getElem? hj
              rcases hn with h | h
              · exact hP.one_ne (hmem c hc) h
              · exact g3 c (hmem' c (by simp [hc])) h)
            lt := fun c hc => Nat.lt_of_lt_of_le (hP.lt c (hmem' c hc)) hs.size
            gp := hP.gp, Xp := fun c hc => hP.Xp c (hmem c hc)
            got := ⟨gv', o1, by rw [ints_snoc, List.length_append]; exact o2, fun c hc hk => by
              rcases o3 c hk with h | h
              · exact g3 c (hmem' c hc) h
              · have := hP.lt c (hmem' c hc)
                omega, hapart hP.want g4, hapart hP.m g5⟩
            want := hrow hP.want g4, m := hrow hP.m g5
            xw := fun c hc => hP.xw c (hmem' c hc), xm := fun c hc => hP.xm c (hmem' c hc), wm := hP.wm, room := by simp; omega }
  · obtain ⟨y1, y2, v, t, y3, y4, y5, y6⟩ := hS y hy
    rw [y3] at y1
    rcases hn with h | h
    · rw [h] at y1
      have := y1.symm.trans g1
      simp at this
      exact y5 this.2
    · exact own_ne g2 y1 y4 h
  · intro hn
    rcases hkp with rfl | ⟨_, cur, hcur⟩
    · rcases hn with h | h
      · exact hP.gp h.symm
      · exact g3 k (by simp) h
    · rcases hn with h | h
      · subst h
        have := hcur.symm.trans g1
        simp at this
      · rcases g2.2 with ⟨rfl, _⟩ | ⟨g, cap, cur', rfl, _, hh, _⟩
        · cases h
        · simp only [Value.ownBlock, Option.some.injEq] at h
          subst h
          have := hcur.symm.trans hh
          simp at this

end Go.Proofs.YthofmccpfknjnaaDoor
