/-
  An index of rows: its tree, its set of rows, in memory. Conditions: none.
-/
import Derived.Test.YtelgbigpfiohfaaTreeAll
import Derived.Maps.OwnSet
import Derived.Maps.Views
namespace Go.Proofs.Ytelgbigpfiohfaa
open Go.RowKit Go.Extern.Stop Go.Stop Go.Extern Go.Lib Go.Maps
set_option maxRecDepth 1000000

theorem key_law : Keyed Try.prog 2 := int_keyed (q := .i64) (by kernel_rfl)
theorem set_under : Try.prog.underlying 60 = some (.map 2 63) := by kernel_rfl
theorem unit_zero (w : World) : (zeroValue 63).run Try.prog w = .ok (.agg #[]) w := by kernel_rfl

/-- A number of 64 bits. -/
abbrev I64 (y : Int) : Prop := (Lit.int .i64 y).wf = true

theorem key_of {y : Int} (h : I64 y) : keyOf Try.prog 2 (.int .i64 y) = some (.int .i64 y) := keyOf_int_mk (q := .i64) (by kernel_rfl) h

/-- In world w block mb is a map with these keys. -/
def SetIs (w : World) (mb : Nat) (L : List Int) (N : Nat) : Prop :=
  ∃ D : DataW Unit, w.ownsMap Try.prog 2 (unitElem (H := Unit)) mb N D ∧ ∀ y, Maps.has D (.int .i64 y) = true ↔ y ∈ L

theorem SetIs.keep {w w' : World} {F : Nat → Prop} {mb N : Nat} {L : List Int} (h : SetIs w mb L N) (hs : Same F w w') (hF : ¬ F mb) : SetIs w' mb L N := by
  obtain ⟨D, ⟨es, clock, hb, h2⟩, h3⟩ := h
  exact ⟨D, ⟨es, clock, hs.obj hb hF, h2⟩, h3⟩

theorem SetIs.lt {w : World} {mb N : Nat} {L : List Int} (h : SetIs w mb L N) : mb < w.heap.size := by
  obtain ⟨D, h, _⟩ := h
  exact h.lt

theorem SetIs.obj {w : World} {mb N : Nat} {L : List Int} (h : SetIs w mb L N) : ∃ es clock, w.heap[mb]? = some (.map es clock) := by
  obtain ⟨D, ⟨es, clock, hb, _⟩, _⟩ := h
  exact ⟨es, clock, hb⟩

theorem has_eq {D : DataW Unit} {L : List Int} (h : ∀ y, Maps.has D (.int .i64 y) = true ↔ y ∈ L) (y : Int) : Maps.has D (.int .i64 y) = decide (y ∈ L) := by
  cases hq : Maps.has D (.int .i64 y) with
  | true => simp [(h y).1 hq]
  | false =>
    have : y ∉ L := fun hm => by rw [(h y).2 hm] at hq; cases hq
    simp [this]

/-- In world w the index in block x has these rows, in this order; c nodes were written. -/
def IxAt (T : TypeId) (w : World) (P : Nat → Prop) (x : Nat) (L : List Int) (c : Int) (N : Nat) : Prop :=
  ∃ t mb, P x ∧ P mb ∧ w.heap[x]? = some (.cells #[.pointer (some ⟨t, 0, none⟩), .map (some mb)] T (0, 0)) ∧ x ≠ mb ∧ SetIs w mb L N ∧ TreeIs w (fun k => P k ∧ k ≠ x ∧ k ≠ mb) t L c ∧ L.Nodup ∧ ∀ y ∈ L, I64 y

theorem IxAt.keep {T : TypeId} {w w' : World} {P F : Nat → Prop} {x N : Nat} {L : List Int} {c : Int} (h : IxAt T w P x L c N) (hs : Same F w w') (hF : ∀ k, F k → ¬ P k) : IxAt T w' P x L c N := by
  obtain ⟨t, mb, hx, hm, hb, hne, hset, ht, hn, h6⟩ := h
  exact ⟨t, mb, hx, hm, hs.obj hb (fun h => hF x h hx), hne, hset.keep hs (fun h => hF mb h hm), ht.keep hs (fun k hk hp => hF k hk hp.1), hn, h6⟩

theorem IxAt.mono {T : TypeId} {w : World} {P Q : Nat → Prop} {x N : Nat} {L : List Int} {c : Int} (h : IxAt T w P x L c N) (hPQ : ∀ k, k < w.heap.size → P k → Q k) : IxAt T w Q x L c N := by
  obtain ⟨t, mb, hx, hm, hb, hne, hset, ht, hn, h6⟩ := h
  exact ⟨t, mb, hPQ x (lt_of_block hb) hx, hPQ mb hset.lt hm, hb, hne, hset, ht.mono (fun k hk hp => ⟨hPQ k hk hp.1, hp.2⟩), hn, h6⟩

theorem ix_cells {T : TypeId} {w : World} {x t mb : Nat} (h : w.heap[x]? = some (.cells #[.pointer (some ⟨t, 0, none⟩), .map (some mb)] T (0, 0))) : w.cell? ⟨x, 0, none⟩ = some (.pointer (some ⟨t, 0, none⟩)) ∧ w.cell? ⟨x, 1, none⟩ = some (.map (some mb)) ∧ x < w.heap.size := by
  refine ⟨?_, ?_, lt_of_block h⟩ <;> simp [World.cell?, h]

/-- The index turned: its rows, how many nodes more were written. -/
def IxGot (T : TypeId) (w w' : World) (P : Nat → Prop) (x : Nat) (L' : List Int) (c : Int) (N most : Nat) : Prop :=
  (∃ d : Nat, d ≤ most ∧ IxAt T w' P x L' (c + d) (N + 1)) ∧ Same P w w'

theorem IxAt.more {T : TypeId} {w : World} {P : Nat → Prop} {x N N' : Nat} {L : List Int} {c : Int} (h : IxAt T w P x L c N) (hN : N ≤ N') : IxAt T w P x L c N' := by
  obtain ⟨t, mb, hx, hm, hb, hne, ⟨D, ho, hh⟩, ht, hn, h6⟩ := h
  exact ⟨t, mb, hx, hm, hb, hne, ⟨D, ho.mono hN, hh⟩, ht, hn, h6⟩

/-- How many nodes one call of a tree writes at most. -/
def Most (n : Nat) : Nat := 3 * (Nat.log2 (n + 1) / 2) + 3

theorem low_most {n h d : Nat} (hl : Low n h) (hd : d ≤ 3 * h + 3) : d ≤ Most n := by
  have : h ≤ Nat.log2 (n + 1) / 2 := by
    rcases hl with h0 | h0
    · omega
    · have h1 : 2 ^ (2 * h) ≤ n + 1 := by
        rw [Nat.pow_mul]
        have : (2 ^ 2 : Nat) = 4 := by decide
        rw [this]
        omega
      have h2 : 2 * h ≤ Nat.log2 (n + 1) := (Nat.le_log2 (by omega)).2 h1
      omega
  unfold Most
  omega

theorem insert_nodup {L : List Int} {v : Int} (i : Nat) (h : L.Nodup) (hv : v ∉ L) : (L.take i ++ v :: L.drop i).Nodup := by
  have h1 : (v :: (L.take i ++ L.drop i)).Nodup := by rw [List.take_append_drop]; exact List.nodup_cons.2 ⟨hv, h⟩
  exact (List.perm_middle).nodup_iff.2 h1

theorem insert_mem {L : List Int} {v y : Int} (i : Nat) : y ∈ L.take i ++ v :: L.drop i ↔ y = v ∨ y ∈ L := by
  rw [(List.perm_middle (a := v) (l₁ := L.take i) (l₂ := L.drop i)).mem_iff, List.mem_cons, List.take_append_drop]

end Go.Proofs.Ytelgbigpfiohfaa
