/-
  PosPlays: what the steps are, what an arm of its switch starts from and ends in. Conditions: none.
-/
import Derived.Test.YtelgbigpfiohfaaPlayB
import Derived.Deep.CutRange
import Derived.Deep.CutBlock
namespace Go.Proofs.Ytelgbigpfiohfaa
open Go.RowKit Go.Extern.Stop Go.Stop Go.Extern Go.Lib Go.Maps
set_option maxRecDepth 1000000

/-- A step: what, two places, a row. -/
structure Stp where
  what : Int
  i : Int
  k : Int
  id : Int

instance : Inhabited Stp := ⟨⟨0, 0, 0, 0⟩⟩

def Stp.ok (s : Stp) : Prop := I64 s.what ∧ I64 s.i ∧ I64 s.k ∧ I64 s.id

/-- A slice of steps that can be read. -/
def ReadT (w : World) (v : Value) (l : List Stp) : Prop :=
  ∃ ao cap, v = .slice ao l.length cap ∧ ∀ j s, l[j]? = some s → ∃ b off, ao = some ⟨b, off, none⟩ ∧ b < w.heap.size ∧ w.cell? ⟨b, off + j * 4, none⟩ = some (.int .i64 s.what) ∧ w.cell? ⟨b, off + j * 4 + 1, none⟩ = some (.int .i64 s.i) ∧ w.cell? ⟨b, off + j * 4 + 2, none⟩ = some (.int .i64 s.k) ∧ w.cell? ⟨b, off + j * 4 + 3, none⟩ = some (.int .i64 s.id)

theorem ReadT.kept {w w' : World} {v : Value} {l : List Stp} (h : ReadT w v l) (hs : Same (fun _ => False) w w') : ReadT w' v l := by
  obtain ⟨ao, cap, rfl, hc⟩ := h
  refine ⟨ao, cap, rfl, fun j s hj => ?_⟩
  obtain ⟨b, off, rfl, hb, e0, e1, e2, e3⟩ := hc j s hj
  have hk := fun k => World.cell?_of_block (a := ⟨b, k, none⟩) (hs.block b hb id)
  exact ⟨b, off, rfl, Nat.lt_of_lt_of_le hb hs.size, (hk _).trans e0, (hk _).trans e1, (hk _).trans e2, (hk _).trans e3⟩

theorem ReadT.at {w : World} {ao : Option Addr} {n cap : Nat} {l : List Stp} (h : ReadT w (.slice ao n cap) l) {j : Nat} (hj : j < l.length) : ∃ b off, ao = some ⟨b, off, none⟩ ∧ b < w.heap.size ∧ w.cell? ⟨b, off + j * 4, none⟩ = some (.int .i64 l[j].what) ∧ w.cell? ⟨b, off + j * 4 + 1, none⟩ = some (.int .i64 l[j].i) ∧ w.cell? ⟨b, off + j * 4 + 2, none⟩ = some (.int .i64 l[j].k) ∧ w.cell? ⟨b, off + j * 4 + 3, none⟩ = some (.int .i64 l[j].id) := by
  obtain ⟨ao', cap', e, hc⟩ := h
  simp only [Value.slice.injEq] at e
  obtain ⟨rfl, -, -⟩ := e
  exact hc j _ (List.getElem?_eq_getElem hj)

/-- Behind base B, no block of this row, not block s. -/
def OffS (B : Nat) (v : Value) (s q : Nat) : Prop := (B ≤ q ∧ v.ownBlock ≠ some q) ∧ q ≠ s
def OffM (B : Nat) (v : Value) (q : Nat) : Prop := B ≤ q ∧ v.ownBlock ≠ some q

abbrev stepObj (a b c d : Int) : Obj := .cells #[.int .i64 a, .int .i64 b, .int .i64 c, .int .i64 d] 45

theorem step_cells {w : World} {s : Nat} {a b c d : Int} (h : w.heap[s]? = some (.cells #[.int .i64 a, .int .i64 b, .int .i64 c, .int .i64 d] 45 (0, 0))) : w.cell? ⟨s, 0, none⟩ = some (.int .i64 a) ∧ w.cell? ⟨s, 1, none⟩ = some (.int .i64 b) ∧ w.cell? ⟨s, 2, none⟩ = some (.int .i64 c) ∧ w.cell? ⟨s, 3, none⟩ = some (.int .i64 d) := by
  refine ⟨?_, ?_, ?_, ?_⟩ <;> simp [World.cell?, h]

/-- Behind the switch: the index and the model's rows are alike, so are the errors; few nodes were written. -/
def PlayCut (w : World) (B sb x : Nat) (sd : Int) (L : List Int) (c : Int) (N : Nat) (s4 s11 s12 : Value) (wx : World) : Prop :=
  ∃ (f : Int) (L' : List Int) (dd N' : Nat), s11 = .int .i64 f ∧ s12 = .int .i64 f ∧ wx.ownsRow B 2 1 s4 L'.length (intsV L') ∧ IxAt 62 wx (OffM B s4) x L' (c + dd) N' ∧ N' ≤ N + 1 ∧ L'.length ≤ L.length + 1 ∧ dd ≤ 2 * Most L.length ∧ (f ≠ 0 → dd = 0) ∧ Same (fun _ => False) w wx ∧ wx.cell? ⟨sb, 3, none⟩ = some (.int .i64 sd) ∧ sb < wx.heap.size

theorem IxAt.nodup {T : TypeId} {w : World} {P : Nat → Prop} {x N : Nat} {L : List Int} {c : Int} (h : IxAt T w P x L c N) : L.Nodup := by
  obtain ⟨t, mb, _, _, _, _, _, _, h7, _⟩ := h
  exact h7

theorem logs_enough (n : Nat) : 2 * Most n ≤ 16 * (Nat.log2 (n + 1 + 1) + 1) := by
  have h : Nat.log2 (n + 1) ≤ Nat.log2 (n + 1 + 1) := by
    rw [Nat.le_log2 (by omega)]
    have := Nat.log2_self_le (show n + 1 ≠ 0 by omega)
    omega
  unfold Most
  omega

theorem own_down {w : World} {B B' n : Nat} {x : Value} {xs : List Value} {e : TypeId} {size : Nat} (h : w.ownsRow B e size x n xs) (hB : B' ≤ B) : w.ownsRow B' e size x n xs :=
  ⟨h.1, h.2.imp id fun ⟨g, cap, cur, a, b, c⟩ => ⟨g, cap, cur, a, Nat.le_trans hB b, c⟩⟩

/-- The block of a number. -/
def findBlock (n : Nat) : Code → Option Code
  | .block m c => if m = n then some (.block m c) else findBlock n c
  | .loop c => findBlock n c
  | .seq a b => match findBlock n a with
    | some c => some c
    | none => findBlock n b
  | .scope c => findBlock n c
  | .cond _ a b => match findBlock n a with
    | some c => some c
    | none => findBlock n b
  | _ => none

noncomputable def swCode : Code := ((Try.f6.body.bind (findBlock 2)).getD .skip)

/-- What an arm starts from. -/
structure ArmIn (w0 w : World) (B sb x n c4 : Nat) (a4 : Option Addr) (L : List Int) (c : Int) (N : Nat) (sw si sk sd : Int) : Prop where
  ix : IxAt 62 w (OffS B (.slice a4 n c4) sb) x L c N
  up : ∀ q, w.heap.size ≤ q → OffS B (.slice a4 n c4) sb q
  own : w.ownsRow B 2 1 (.slice a4 n c4) L.length (intsV L)
  len : L.length = n
  few : n ≤ 80 ∧ 0 ≤ c ∧ c ≤ 100000 ∧ N ≤ 80
  base : B ≤ w.heap.size
  blk : w.heap[sb]? = some (.cells #[.int .i64 sw, .int .i64 si, .int .i64 sk, .int .i64 sd] 45 (0, 0))
  same : Same (fun _ => False) w0 w
  out : w0.heap.size ≤ B
  num : I64 sw ∧ I64 si ∧ I64 sk ∧ I64 sd
  sbB : B ≤ sb

theorem ArmIn.cells {w0 w : World} {B sb x n c4 N : Nat} {a4 : Option Addr} {L : List Int} {c sw si sk sd : Int} (h : ArmIn w0 w B sb x n c4 a4 L c N sw si sk sd) : w.cell? ⟨sb, 0, none⟩ = some (.int .i64 sw) ∧ w.cell? ⟨sb, 1, none⟩ = some (.int .i64 si) ∧ w.cell? ⟨sb, 2, none⟩ = some (.int .i64 sk) ∧ w.cell? ⟨sb, 3, none⟩ = some (.int .i64 sd) := step_cells h.blk

theorem ArmIn.cells_at {w0 w w1 : World} {F : Nat → Prop} {B sb x n c4 N : Nat} {a4 : Option Addr} {L : List Int} {c sw si sk sd : Int} (h : ArmIn w0 w B sb x n c4 a4 L c N sw si sk sd) (hs : Same F w w1) (hF : ¬ F sb) : w1.cell? ⟨sb, 0, none⟩ = some (.int .i64 sw) ∧ w1.cell? ⟨sb, 1, none⟩ = some (.int .i64 si) ∧ w1.cell? ⟨sb, 2, none⟩ = some (.int .i64 sk) ∧ w1.cell? ⟨sb, 3, none⟩ = some (.int .i64 sd) := step_cells (hs.obj h.blk hF)

theorem PlayCut.same {w0 w w' : World} {B sb x n c4 N : Nat} {a4 : Option Addr} {L : List Int} {c sw si sk sd f : Int} (h : ArmIn w0 w B sb x n c4 a4 L c N sw si sk sd) (hs : Same (fun _ => False) w w') : PlayCut w0 B sb x sd L c N (.slice a4 n c4) (.int .i64 f) (.int .i64 f) w' := by
  have hl := lt_of_block h.blk
  have h3 := h.cells.2.2.2
  have hsz := hs.size
  refine ⟨f, L, 0, N, rfl, rfl, hs.row h.own (fun _ _ h => h), ?_, by omega, by omega, by omega, fun _ => rfl, h.same.trans hs (fun _ _ h => h), (World.cell?_of_block (a := ⟨sb, 3, none⟩) (hs.block sb hl id)).trans h3, by omega⟩
  have := (h.ix.mono (Q := OffM B (.slice a4 n c4)) (fun q _ hp => hp.1)).keep hs (fun _ h => h.elim)
  simpa using this

/-- An arm that left the index, but laid a new row. -/
theorem PlayCut.fresh {w0 w w1 w' : World} {B sb x n c4 N : Nat} {a4 : Option Addr} {L : List Int} {c sw si sk sd : Int} {v' : Value} (h : ArmIn w0 w B sb x n c4 a4 L c N sw si sk sd) (hs1 : Same (fun _ => False) w w1) (hs : Same (fun _ => False) w1 w') (hv : ∀ q, v'.ownBlock = some q → w1.heap.size ≤ q) (ho : w'.ownsRow B 2 1 v' L.length (intsV L)) : PlayCut w0 B sb x sd L c N v' (.int .i64 0) (.int .i64 0) w' := by
  have hl := lt_of_block h.blk
  have h3 := h.cells.2.2.2
  have hsz := hs.size; have hsz1 := hs1.size
  have hs2 := hs1.trans hs (fun _ _ h => h)
  refine ⟨0, L, 0, N, rfl, rfl, ho, ?_, by omega, by omega, by omega, fun _ => rfl, h.same.trans hs2 (fun _ _ h => h), (World.cell?_of_block (a := ⟨sb, 3, none⟩) (hs2.block sb hl id)).trans h3, by omega⟩
  have := (h.ix.mono (Q := OffM B v') (fun q hq hp => ⟨hp.1.1, fun e => by have := hv q e; omega⟩)).keep hs2 (fun _ h => h.elim)
  simpa using this

/-- An arm that turned the index: the model's row stands in a row of its own. -/
theorem PlayCut.turned {w0 w w1 w' : World} {B sb x n c4 N most : Nat} {a4 : Option Addr} {L L' : List Int} {c sw si sk sd : Int} {v' : Value} (h : ArmIn w0 w B sb x n c4 a4 L c N sw si sk sd) (hg : IxGot 62 w w1 (OffS B (.slice a4 n c4) sb) x L' c N most) (hm : most ≤ 2 * Most L.length) (hL : L'.length ≤ L.length + 1)
    (hs : Same (fun q => B ≤ q ∧ w1.heap.size ≤ q) w1 w') (hv : ∀ q, v'.ownBlock = some q → w1.heap.size ≤ q) (ho : w'.ownsRow B 2 1 v' L'.length (intsV L')) : PlayCut w0 B sb x sd L c N v' (.int .i64 0) (.int .i64 0) w' := by
  obtain ⟨⟨d, hd, hi⟩, hs1⟩ := hg
  have hl := lt_of_block h.blk
  have h3 := h.cells.2.2.2
  have hsz := hs.size; have hsz1 := hs1.size
  have hs' : Same (fun _ => False) w1 w' := hs.weaken (fun q hq hF => by omega)
  have c1 : w1.cell? ⟨sb, 3, none⟩ = some (.int .i64 sd) := (World.cell?_of_block (a := ⟨sb, 3, none⟩) (hs1.block sb hl (fun e => e.2 rfl))).trans h3
  refine ⟨0, L', d, N + 1, rfl, rfl, ho, ?_, by omega, hL, by omega, fun e => absurd rfl e, (h.same.trans hs1 (fun i hi hF => by have h9 : B ≤ i := hF.1.1; have := h.out; omega)).trans hs' (fun _ _ h => h), (World.cell?_of_block (a := ⟨sb, 3, none⟩) (hs'.block sb (by omega) id)).trans c1, by omega⟩
  exact (hi.mono (fun q hq hp => ⟨hp.1.1, fun e => by have := hv q e; omega⟩)).keep hs' (fun _ h => h.elim)

/-- What stands behind the block of a number. -/
def behind (n : Nat) : Code → Option Code
  | .block _ c => behind n c
  | .loop c => behind n c
  | .seq a b => match behind n a with
    | some c => some c
    | none => match findBlock n a with
      | some _ => some b
      | none => behind n b
  | _ => none

noncomputable def tailCode : Code := ((Try.f6.body.bind (behind 2)).getD .skip)

end Go.Proofs.Ytelgbigpfiohfaa
