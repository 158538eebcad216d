/-
  Laws of no one program: cells of a row that are written one behind the other. Conditions: none.
-/
import Derived.Test.YtelgbigpfiohfaaTreeAt
import Derived.Laws.IdiomCopy
namespace Go.Proofs.Ytelgbigpfiohfaa
open Go.RowKit Go.Lib

/-- A list in whose places from o on vs stands. -/
def spl (l : List Value) (o : Nat) (vs : List Value) : List Value := l.take o ++ vs ++ l.drop (o + vs.length)

theorem spl_length {l : List Value} {o : Nat} {vs : List Value} (h : o + vs.length ≤ l.length) : (spl l o vs).length = l.length := by
  simp only [spl, List.length_append, List.length_take, List.length_drop]
  omega

theorem spl_cons {l : List Value} {o : Nat} {v : Value} {vs : List Value} (h : o + (vs.length + 1) ≤ l.length) : spl (l.set o v) (o + 1) vs = spl l o (v :: vs) := by
  simp only [spl, List.length_cons]
  have h1 : (l.set o v).take (o + 1) = l.take o ++ [v] := by
    rw [List.take_add_one, List.take_set_of_le (Nat.le_refl _)]
    simp [show o < l.length by omega]
  rw [h1, List.drop_set_of_lt (by omega), show o + 1 + vs.length = o + (vs.length + 1) by omega]
  simp

theorem setCells_row {g : Nat} {T : TypeId} {fr : Nat × Nat} : ∀ (vs : List Value) (o : Nat) (w : World) (cs : List Value), w.heap[g]? = some (.cells cs.toArray T fr) → o + vs.length ≤ cs.length → (w.setCells g o vs).heap[g]? = some (.cells (spl cs o vs).toArray T fr)
  | [], o, w, cs, h, _ => by rw [World.setCells, h]; simp [spl]
  | v :: vs, o, w, cs, h, hl => by
    rw [List.length_cons] at hl
    rw [World.setCells]
    have h1 := set_at (o := o) (u := v) h
    rw [show (cs.toArray.setIfInBounds o v) = (cs.set o v).toArray by simp] at h1
    rw [setCells_row vs (o + 1) _ _ h1 (by rw [List.length_set]; omega), spl_cons (by omega)]

theorem setCells_other {g b : Nat} (hb : b ≠ g) : ∀ (vs : List Value) (o : Nat) (w : World), (w.setCells g o vs).heap[b]? = w.heap[b]?
  | [], _, _ => rfl
  | v :: vs, o, w => by
    rw [World.setCells, setCells_other hb vs]
    exact Below.heap_setCell _ _ _ _ hb

theorem setCells_size {g : Nat} : ∀ (vs : List Value) (o : Nat) (w : World), (w.setCells g o vs).heap.size = w.heap.size
  | [], _, _ => rfl
  | v :: vs, o, w => by rw [World.setCells, setCells_size vs]; simp [World.setCell]

theorem setCells_rest {g : Nat} : ∀ (vs : List Value) (o : Nat) (w : World), (w.setCells g o vs).os = w.os ∧ (w.setCells g o vs).tape = w.tape ∧ (w.setCells g o vs).output = w.output
  | [], _, _ => ⟨rfl, rfl, rfl⟩
  | v :: vs, o, w => by rw [World.setCells]; exact setCells_rest vs _ _

theorem Same.setCells {F : Nat → Prop} {w w1 : World} (h : Same F w w1) {g : Nat} (hg : g < w.heap.size → F g) (o : Nat) (vs : List Value) : Same F w (w1.setCells g o vs) := by
  obtain ⟨a, b, c⟩ := setCells_rest (g := g) vs o w1
  exact ⟨a.trans h.os, b.trans h.tape, c.trans h.output, by rw [setCells_size]; exact h.size, fun k hk hn => (setCells_other (fun e => hn (by subst e; exact hg hk)) vs o w1).trans (h.block k hk hn)⟩

theorem drew_heap (w : World) : w.drew.heap = w.heap := rfl

theorem Same.drew {F : Nat → Prop} {w w1 : World} (h : Same F w w1) : Same F w w1.drew := ⟨h.os, h.tape, h.output, h.size, h.block⟩

/-- A row of the call's own, taken apart. -/
theorem ownsRow_open {w : World} {B : Nat} {T : TypeId} {g n cap : Nat} {xs : List Value} (h : w.ownsRow B T 1 (.slice (some ⟨g, 0, none⟩) n cap) n xs) :
    B ≤ g ∧ n ≤ cap ∧ cap ≤ maxLen ∧ xs.length = n ∧ ∃ cs : List Value, cs.length = cap ∧ cs.take n = xs ∧ w.heap[g]? = some (.cells cs.toArray T (0, 0)) := by
  obtain ⟨hl, h2⟩ := h
  rcases h2 with ⟨e, _⟩ | ⟨g', cap', cur, e, hb, hg, hnc, hcm, hcs, ht⟩
  · cases e
  · simp only [Value.slice.injEq, Option.some.injEq, Addr.mk.injEq] at e
    obtain ⟨⟨rfl, _⟩, _, rfl⟩ := e
    exact ⟨hb, hnc, hcm, by omega, cur.toList, by simpa using hcs, by simpa using ht, by simpa using hg⟩

theorem ownsRow_shut {w : World} {B : Nat} {T : TypeId} {g n cap : Nat} {xs cs : List Value} (hB : B ≤ g) (hn : n ≤ cap) (hc : cap ≤ maxLen) (hl : cs.length = cap) (ht : cs.take n = xs) (hg : w.heap[g]? = some (.cells cs.toArray T (0, 0))) :
    w.ownsRow B T 1 (.slice (some ⟨g, 0, none⟩) n cap) n xs := by
  have hx : xs.length = n := by rw [← ht, List.length_take]; omega
  exact ⟨by omega, Or.inr ⟨g, cap, cs.toArray, rfl, hB, hg, hn, hc, by simpa using hl, by simpa using ht⟩⟩

end Go.Proofs.Ytelgbigpfiohfaa
