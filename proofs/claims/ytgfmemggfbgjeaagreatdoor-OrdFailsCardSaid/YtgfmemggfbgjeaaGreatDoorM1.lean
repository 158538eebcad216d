/-
  Laws of no one program: an append that tells where the new row lies (the old one's block, or a new block); blocks that are told whole. Conditions: none on inputs.
-/
import Derived.WalkKit
import Derived.WalkSpells
import Derived.WalkLawsBesides
import Derived.Laws.EntriesVeiled
import Derived.Handy
import Derived.Lib.Hide
import Derived.Deep.LoopGhost
namespace Go.Proofs.YtgfmemggfbgjeaaGreatDoor
open Go.RowKit

/-- Two values own no row together. -/
def Apart (a b : Value) : Prop := ∀ k, a.ownBlock = some k → b.ownBlock ≠ some k

theorem Apart.symm {a b : Value} (h : Apart a b) : Apart b a := fun k hb ha => h k ha hb

theorem grownBy_trans {a b c : World} {row : Option Nat} (h : a.grownBy b row) (k : b.grownBy c row) : a.grownBy c row :=
  ⟨k.os.trans h.os, k.tape.trans h.tape, k.output.trans h.output, Nat.le_trans h.size k.size, fun i hi hr => (k.block i (Nat.lt_of_lt_of_le hi h.size) hr).trans (h.block i hi hr)⟩

theorem grownBy_one {w w' : World} {row : Option Nat} (h : w.grownBy w' row) {k : Nat} {o : Obj} (hk : w.heap[k]? = some o) (hr : row ≠ some k) : w'.heap[k]? = some o :=
  (h.block k (lt_of_block hk) (fun e => hr e.symm)).trans hk

/-- Between two worlds nothing that was there has turned but blocks of F. -/
structure Same (F : Nat → Prop) (w w' : World) : Prop where
  os : w'.os = w.os
  tape : w'.tape = w.tape
  output : w'.output = w.output
  size : w.heap.size ≤ w'.heap.size
  block : ∀ k, k < w.heap.size → ¬ F k → w'.heap[k]? = w.heap[k]?

/-- A block of one cell, told whole. -/
def One (w : World) (b : Nat) (v : Value) (t : TypeId) : Prop := w.heap[b]? = some (.cells #[v] t (0, 0))

namespace Same
variable {F F' : Nat → Prop} {w w1 w' : World}

theorem refl (F : Nat → Prop) (w : World) : Same F w w := ⟨rfl, rfl, rfl, Nat.le_refl _, fun _ _ _ => rfl⟩

theorem weaken (h : Same F w w') (hf : ∀ k, k < w.heap.size → F k → F' k) : Same F' w w' := ⟨h.os, h.tape, h.output, h.size, fun k hk hn => h.block k hk (fun hF => hn (hf k hk hF))⟩

/-- Two steps; what the second one turns must be of F as far as it was there at the first. -/
theorem trans (h : Same F w w1) (k : Same F' w1 w') (hf : ∀ i, i < w.heap.size → F' i → F i) : Same F w w' :=
  ⟨k.os.trans h.os, k.tape.trans h.tape, k.output.trans h.output, Nat.le_trans h.size k.size, fun i hi hn =>
    (k.block i (Nat.lt_of_lt_of_le hi h.size) (fun hF => hn (hf i hi hF))).trans (h.block i hi hn)⟩

theorem alloc (h : Same F w w1) (o : Obj) : Same F w (w1.alloc o) :=
  ⟨h.os, h.tape, h.output, by have := h.size; simp; omega, fun i hi hn => (Below.heap_alloc _ _ _ (Nat.lt_of_lt_of_le hi h.size)).trans (h.block i hi hn)⟩

theorem setCell (h : Same F w w1) {p : Addr} (hp : p.block < w.heap.size → F p.block) (u : Value) : Same F w (w1.setCell p u) :=
  ⟨h.os, h.tape, h.output, by simpa [World.setCell] using h.size, fun i hi hn => (Below.heap_setCell _ _ _ _ (fun e => hn (by subst e; exact hp hi))).trans (h.block i hi hn)⟩

theorem grown (h : Same F w w1) {row : Option Nat} (hg : w1.grownBy w' row) (hr : ∀ k, row = some k → k < w.heap.size → F k) : Same F w w' :=
  ⟨hg.os.trans h.os, hg.tape.trans h.tape, hg.output.trans h.output, Nat.le_trans h.size hg.size, fun i hi hn =>
    (hg.block i (Nat.lt_of_lt_of_le hi h.size) (fun e => hn (hr i e.symm hi))).trans (h.block i hi hn)⟩

theorem setRow (h : Same F w w1) {g : Nat} (hg : g < w.heap.size → F g) (cs : Array Value) : Same F w (w1.setRow g cs) :=
  ⟨h.os, h.tape, h.output, by simpa using h.size, fun i hi hn => (setRow_other _ _ _ _ (fun e => hn (by subst e; exact hg hi))).trans (h.block i hi hn)⟩

theorem drewN (h : Same F w w1) (n : Nat) : Same F w (w1.drewN n) := ⟨h.os, h.tape, h.output, h.size, h.block⟩

theorem obj (h : Same F w w') {k : Nat} {o : Obj} (hk : w.heap[k]? = some o) (hn : ¬ F k) : w'.heap[k]? = some o := (h.block k (lt_of_block hk) hn).trans hk

theorem one (h : Same F w w') {b : Nat} {v : Value} {t : TypeId} (hb : One w b v t) (hn : ¬ F b) : One w' b v t := h.obj hb hn

theorem row (h : Same F w w') {base : Nat} {e : TypeId} {size : Nat} {v : Value} {n : Nat} {xs : List Value} (hv : w.ownsRow base e size v n xs) (hn : ∀ k, v.ownBlock = some k → ¬ F k) : w'.ownsRow base e size v n xs := by
  obtain ⟨h1, h2⟩ := hv
  refine ⟨h1, ?_⟩
  rcases h2 with h2 | ⟨g, cap, cur, rfl, r2, hh, r3⟩
  · exact Or.inl h2
  · exact Or.inr ⟨g, cap, cur, rfl, r2, h.obj hh (hn g rfl), r3⟩

theorem below (h : Same F w w') {B : Nat} {w0 : World} (hb : Below B w0 w) (hB : B ≤ w.heap.size) (hn : ∀ k, F k → B ≤ k) : Below B w0 w' :=
  hb.trans ⟨h.os, h.tape, h.output, h.size, fun k hk => h.block k (by omega) (fun hF => by have := hn k hF; omega)⟩
end Same

namespace One
variable {w : World} {b : Nat} {v : Value} {t : TypeId}
theorem cell (h : One w b v t) : w.cell? ⟨b, 0, none⟩ = some v := cell_of_one h
theorem free (h : One w b v t) : w.frozen? ⟨b, 0, none⟩ = false := free_of_one h
theorem lt (h : One w b v t) : b < w.heap.size := lt_of_block h
theorem setCell (h : One w b v t) (u : Value) : One (w.setCell ⟨b, 0, none⟩ u) b u t := one_setCell h
theorem new (w : World) (v : Value) (t : TypeId) : One (w.alloc (.cells #[v] t)) w.heap.size v t := heap_alloc_new _ _
theorem alloc (h : One w b v t) (o : Obj) : One (w.alloc o) b v t := (Below.heap_alloc _ _ _ (lt_of_block h)).trans h
theorem other (h : One w b v t) {a : Addr} (ha : b ≠ a.block) (u : Value) : One (w.setCell a u) b v t := (Below.heap_setCell _ _ _ _ ha).trans h
end One

/-- A row that is owned lies in the block that its value names. -/
theorem own_lt {w : World} {base : Nat} {e : TypeId} {size : Nat} {v : Value} {n : Nat} {xs : List Value} (h : w.ownsRow base e size v n xs) {k : Nat} (hk : v.ownBlock = some k) : k < w.heap.size := (h.lt k hk).2

/-- An owned row and a block told whole, of another type, are two. -/
theorem own_ne {w : World} {base : Nat} {e : TypeId} {size : Nat} {v : Value} {n : Nat} {xs : List Value} (h : w.ownsRow base e size v n xs) {b : Nat} {u : Value} {t : TypeId} (hb : One w b u t) (ht : t ≠ e) : v.ownBlock ≠ some b := by
  intro e1
  rcases h.2 with ⟨rfl, _⟩ | ⟨g, cap, cur, rfl, _, hh, _⟩
  · cases e1
  · simp only [Value.ownBlock, Option.some.injEq] at e1
    subst e1
    rw [hb] at hh
    simp at hh
    exact ht hh.2

section
variable {P : Program} {ops : Array Oper} {Q : Exit → Act → World → Prop} {a : Act} {rest : List Oper} {o : Oper}

/-- An append that adds something: where the row then lies. -/
theorem run_append_where (w : World) (base : Nat) (t ty e : TypeId) (z : Value) (size bytes : Nat) (ht : P.underlying t = some (.slice e)) (hinfo : (P.info? e).map (fun i => (i.zero, i.size, i.bytes)) = some (some z, size, bytes))
    (hzs : z.cells.size = size) (hsz : 0 < size) (v : Value) (n : Nat) (xs : List Value) (hown : w.ownsRow base e size v n xs)
    (ad : Addr) (m c : Nat) (news : List Value) (hl : news.length = m * size) (hnews : ∀ j u, news[j]? = some u → w.cell? (ad.add j) = some u) (h1 : ∀ u ∈ news, u.oneCell' = true) (h0 : 0 < m)
    (h63 : n + m ≤ maxLen) (hbytes : (n + m) * bytes ≤ 140737488355328) (hbase : base ≤ w.heap.size) :
    ∃ g cap w', (Builtin.append_ #[t, t] ty #[v, .slice (some ad) m c]).run P w = .ok (.slice (some ⟨g, 0, none⟩) (n + m) cap) w' ∧ w'.ownsRow base e size (.slice (some ⟨g, 0, none⟩) (n + m) cap) (n + m) (xs ++ news) ∧ w.grownBy w' v.ownBlock ∧
      (v.ownBlock = some g ∨ g = w.heap.size) := by
  obtain ⟨i, hi, hz, rfl, rfl⟩ := info_parts hinfo
  have hsmall : n + m ≤ 9223372036854775807 := by simp only [maxLen] at h63; omega
  obtain ⟨v', w', hr, h2, h3, _⟩ := run_append_own (P := P) w base t ty e i z i.size i.bytes ht hi hz rfl rfl hzs hsz v n xs hown ad m c news hl hnews h1 h63 hbytes hbase
  rcases hown.2 with ⟨rfl, rfl⟩ | ⟨g, cap, cur, rfl, hbg, hg, hnc, hcm, hcs, htake⟩
  · have hr2 := run_append_nil (P := P) w t ty e i z ht hi hz ad m c news hl hnews h0 (by omega) (by rw [Nat.zero_add] at hbytes; omega)
    rw [hr] at hr2
    obtain ⟨rfl, _⟩ := Result.ok.inj hr2
    rw [Nat.zero_add] at h2 ⊢
    exact ⟨_, _, w', hr, h2, h3, Or.inr rfl⟩
  · by_cases hroom : n + m ≤ cap
    · have hfit : n * i.size + news.length ≤ cur.size := by rw [hl, hcs, ← Nat.add_mul]; exact Nat.mul_le_mul_right _ hroom
      have hr2 := run_append_room (P := P) w t ty e i ht hi g n cap cur hg ad m c news hl hnews h1 hroom hfit
      rw [hr] at hr2
      obtain ⟨rfl, _⟩ := Result.ok.inj hr2
      exact ⟨_, _, w', hr, h2, h3, Or.inl rfl⟩
    · have holds : ∀ j u, xs[j]? = some u → w.cell? ((⟨g, 0, none⟩ : Addr).add j) = some u := hown.cells (g := g) rfl
      have hr2 := run_append_grow (P := P) w t ty e i z ht hi hz ⟨g, 0, none⟩ n cap xs hown.1 holds ad m c news hl hnews (by omega) (by omega) (growslice_fits (by omega) hbytes)
      rw [hr] at hr2
      obtain ⟨rfl, _⟩ := Result.ok.inj hr2
      exact ⟨_, _, w', hr, h2, h3, Or.inr rfl⟩

/-- 'append(s, x)' OF ONE ELEMENT (of 'size' cells, which lie in the new block that the translation lays): the row lies in the old block or in a new one. -/
theorem wpList_append_elem (w0 : World) (hgd : o.guard = none) (s x : Operand) (t : TypeId)
    (ho : o.op = .call { callee := .builtin .append, args := #[s, x], argTypes := #[t, t] })
    (base : Nat) (e : TypeId) (z : Value) (size bytes : Nat) (ht : P.underlying t = some (.slice e)) (hinfo : (P.info? e).map (fun i => (i.zero, i.size, i.bytes)) = some (some z, size, bytes))
    (hzs : z.cells.size = size) (hsz : 0 < size) (v : Value) (n : Nat) (xs : List Value) (hs : a.eval s = v) (hown : w0.ownsRow base e size v n xs)
    (news : List Value) (c : Nat) (hx : a.eval x = .slice (some ⟨w0.heap.size, 0, none⟩) 1 c) (hl : news.length = size) (h1 : ∀ u ∈ news, u.oneCell' = true)
    (h63 : n + 1 ≤ maxLen) (hbytes : (n + 1) * bytes ≤ 140737488355328) (hbase : base ≤ w0.heap.size)
    (h : ∀ g cap w', w'.ownsRow base e size (.slice (some ⟨g, 0, none⟩) (n + 1) cap) (n + 1) (xs ++ news) → w0.grownBy w' v.ownBlock → (v.ownBlock = some g ∨ w0.heap.size ≤ g) → g < w'.heap.size → w0.heap.size < w'.heap.size →
      wpList P ops Q rest (a.put o.dst (.slice (some ⟨g, 0, none⟩) (n + 1) cap)) w') :
    wpList P ops Q (o :: rest) a (w0.alloc (.cells news.toArray e)) := by
  have hnews : ∀ j u, news[j]? = some u → (w0.alloc (.cells news.toArray e)).cell? ((⟨w0.heap.size, 0, none⟩ : Addr).add j) = some u := by
    intro j u hj
    have hb : (w0.alloc (.cells news.toArray e)).heap[w0.heap.size]? = some (.cells news.toArray e) := heap_alloc_new _ _
    rw [Addr.add_lit, Nat.zero_add]
    simp only [World.cell?, hb]
    simpa using hj
  have hg0 : w0.grownBy (w0.alloc (.cells news.toArray e)) v.ownBlock := World.grownBy_alloc _ _ _
  have hs0 : (w0.alloc (.cells news.toArray e)).heap.size = w0.heap.size + 1 := by simp
  obtain ⟨g, cap, w', hr, h2, h3, h4⟩ := run_append_where (P := P) (w0.alloc (.cells news.toArray e)) base t o.type e z size bytes ht hinfo hzs hsz v n xs (hown.alloc _) ⟨w0.heap.size, 0, none⟩ 1 c news (by omega) hnews h1 (by omega) h63 hbytes (by omega)
  have hgl := (h2.lt g rfl).2
  have hsz' := h3.size
  refine wpList_plain hgd fun K hK => ?_
  unfold Oper.wp execOp
  simp only [ho, resolve, invoke, builtin, Sem.run_bind, Sem.run_pure, Result.andThen_ok, List.map_toArray, List.map_cons, List.map_nil, hs, hx, hr]
  exact hK _ _ (h g cap w' h2 (grownBy_trans hg0 h3) (h4.imp_right fun e => by omega) hgl (by omega))
end

end Go.Proofs.YtgfmemggfbgjeaaGreatDoor
