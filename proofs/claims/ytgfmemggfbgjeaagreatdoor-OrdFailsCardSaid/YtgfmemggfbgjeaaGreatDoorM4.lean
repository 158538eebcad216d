/-
  What a node of package tree means in memory: its height, its list; that it is kept. Conditions: none.
-/
import Derived.Test.YtgfmemggfbgjeaaGreatDoorM2
import Derived.Test.YtgfmemggfbgjeaaGreatDoorM3
namespace Go.Proofs.YtgfmemggfbgjeaaGreatDoor
open Go.RowKit Go.Extern.Stop Go.Stop Go.Extern Go.Lib
set_option maxRecDepth 1000000

/-- A slice whose cells hold these values, in a block of elements of type T. -/
def ReadC (w : World) (T : TypeId) (v : Value) (l : List Value) : Prop :=
  ∃ ao cap, v = .slice ao l.length cap ∧ (∀ j x, l[j]? = some x → ∃ b off cs fr, ao = some ⟨b, off, none⟩ ∧ w.heap[b]? = some (.cells cs T fr) ∧ w.cell? ⟨b, off + j, none⟩ = some x) ∧ l.length ≤ cap

/-- An entry: its key's row, its number; the key's values (memory doesn't say them: who holds the entry does). -/
structure En where
  ao : Option Addr
  n : Nat
  cap : Nat
  id : Int
  kv : List V
abbrev En.key (e : En) : Value := .slice e.ao e.n e.cap
abbrev En.agg (e : En) : Value := .agg #[.slice e.ao e.n e.cap, .int .i64 e.id]
/-- Its cells, one behind the other. -/
def entsV : List En → List Value
  | [] => []
  | e :: L => .slice e.ao e.n e.cap :: .int .i64 e.id :: entsV L

/-- A slice whose cells, two to an element, hold these values. -/
def ReadZ (w : World) (T : TypeId) (v : Value) (l : List Value) : Prop :=
  ∃ ao n cap, l.length = n * 2 ∧ v = .slice ao n cap ∧ (∀ j x, l[j]? = some x → ∃ b off cs fr, ao = some ⟨b, off, none⟩ ∧ w.heap[b]? = some (.cells cs T fr) ∧ w.cell? ⟨b, off + j, none⟩ = some x) ∧ n ≤ cap
abbrev ReadE (w : World) (v : Value) (L : List En) : Prop := ReadZ w 57 v (entsV L)

theorem entsV_length : ∀ L : List En, (entsV L).length = L.length * 2
  | [] => rfl
  | e :: L => by simp only [entsV, List.length_cons, entsV_length L]; omega
theorem entsV_append : ∀ A B : List En, entsV (A ++ B) = entsV A ++ entsV B
  | [], B => rfl
  | e :: A, B => by simp only [entsV, List.cons_append, entsV_append A B]
theorem entsV_take : ∀ (L : List En) (m : Nat), entsV (L.take m) = (entsV L).take (m * 2)
  | [], m => by simp [entsV]
  | e :: L, 0 => by simp [entsV]
  | e :: L, m + 1 => by rw [List.take_succ_cons, show (m + 1) * 2 = m * 2 + 1 + 1 by omega]; simp only [entsV, List.take_succ_cons, entsV_take L m]
theorem entsV_drop : ∀ (L : List En) (m : Nat), entsV (L.drop m) = (entsV L).drop (m * 2)
  | [], m => by simp [entsV]
  | e :: L, 0 => by simp
  | e :: L, m + 1 => by rw [List.drop_succ_cons, show (m + 1) * 2 = m * 2 + 1 + 1 by omega]; simp only [entsV, List.drop_succ_cons, entsV_drop L m]
theorem entsV_key : ∀ {L : List En} {j : Nat} {e : En}, L[j]? = some e → (entsV L)[j * 2]? = some (.slice e.ao e.n e.cap) ∧ (entsV L)[j * 2 + 1]? = some (.int .i64 e.id)
  | [], _, _, h => by simp at h
  | x :: L, 0, e, h => by
    simp only [List.getElem?_cons_zero, Option.some.injEq] at h
    subst h
    exact ⟨rfl, rfl⟩
  | x :: L, j + 1, e, h => by
    rw [List.getElem?_cons_succ] at h
    have := entsV_key h
    rw [show (j + 1) * 2 = j * 2 + 1 + 1 by omega]
    simpa [entsV] using this
theorem ents_one : ∀ L : List En, ∀ x ∈ entsV L, x.oneCell' = true
  | [], x, h => by cases h
  | e :: L, x, h => by
    simp only [entsV, List.mem_cons] at h
    rcases h with rfl | rfl | h
    · rfl
    · rfl
    · exact ents_one L x h
abbrev ptrsV (bs : List Nat) : List Value := bs.map fun b => .pointer (some ⟨b, 0, none⟩)

/-- A node below another one: its block, how many entries it has, its list. -/
structure Kid where
  b : Nat
  s : Nat
  L : List En

abbrev kidsV (ks : List Kid) : List Value := ks.map fun k => .pointer (some ⟨k.b, 0, none⟩)
def kidsL (ks : List Kid) : List En := ks.flatMap fun k => k.L
theorem kidsL_append (a b : List Kid) : kidsL (a ++ b) = kidsL a ++ kidsL b := List.flatMap_append
theorem kidsL_cons (a : Kid) (b : List Kid) : kidsL (a :: b) = a.L ++ kidsL b := rfl
theorem kidsL_nil : kidsL [] = [] := rfl

theorem ReadZ.keep {w w' : World} {T : TypeId} {v : Value} {l : List Value} {F P : Nat → Prop} (h : ReadZ w T v l) (hs : Same F w w') (hF : ∀ k, F k → (∃ r n, w.heap[k]? = some (headObj r n)) ∨ ¬ P k) (hP : ∀ k, v.ownBlock = some k → P k) (hT : T ≠ 111) : ReadZ w' T v l := by
  obtain ⟨ao, n, cap, hn, rfl, hc, hcap⟩ := h
  refine ⟨ao, n, cap, hn, rfl, fun j x hj => ?_, hcap⟩
  obtain ⟨b, off, cs, fr, rfl, hb, hx⟩ := hc j x hj
  have hn : ¬ F b := fun e => by
    rcases hF b e with ⟨r, n, hr⟩ | hn
    · have := hb.symm.trans hr
      simp at this
      exact hT this.2.1
    · exact hn (hP b rfl)
  have hblk := hs.block b (lt_of_block hb) hn
  exact ⟨b, off, cs, fr, rfl, hblk.trans hb, (World.cell?_of_block (a := ⟨b, _, none⟩) hblk).trans hx⟩

/-- In world w the node in block b has height h, s entries and this list; each node below it has four entries at least; what it is made of lies in blocks of P. -/
def NodeAt (w : World) (P : Nat → Prop) : Nat → Nat → Nat → List En → Prop
  | 0, b, s, L => s = L.length ∧ s ≤ 8 ∧ P b ∧ ∃ l, w.heap[b]? = some (nodeObj l (.slice none 0 0) L.length) ∧ ReadE w l L ∧ ∀ k, l.ownBlock = some k → P k ∧ k < w.heap.size
  | h + 1, b, s, L => s ≤ 8 ∧ 0 < s ∧ P b ∧ ∃ (k : Value) (ks : List Kid), s = ks.length ∧ w.heap[b]? = some (nodeObj (.slice none 0 0) k L.length) ∧ ReadC w 109 k (kidsV ks) ∧ (∀ x, k.ownBlock = some x → P x ∧ x < w.heap.size) ∧ L = kidsL ks ∧
      ∀ c ∈ ks, 4 ≤ c.s ∧ NodeAt w P h c.b c.s c.L

theorem head_only {w : World} {t : Nat} {r : Value} {c : Int} (ht : w.heap[t]? = some (headObj r c)) : ∀ k, k = t → ∃ r n, w.heap[k]? = some (headObj r n) := fun k e => by subst e; exact ⟨_, _, ht⟩

theorem ReadC.same {w w' : World} {T : TypeId} {v : Value} {l : List Value} {F : Nat → Prop} (h : ReadC w T v l) (hs : Same F w w') (hF : ∀ k, F k → ∃ r n, w.heap[k]? = some (headObj r n)) (hT : T ≠ 111) : ReadC w' T v l := by
  obtain ⟨ao, cap, rfl, hc, hcap⟩ := h
  refine ⟨ao, cap, rfl, fun j x hj => ?_, hcap⟩
  obtain ⟨b, off, cs, fr, rfl, hb, hx⟩ := hc j x hj
  have hn : ¬ F b := fun e => by
    obtain ⟨r, n, hr⟩ := hF b e
    have := hb.symm.trans hr
    simp at this
    exact hT this.2.1
  have hblk := hs.block b (lt_of_block hb) hn
  exact ⟨b, off, cs, fr, rfl, hblk.trans hb, (World.cell?_of_block (a := ⟨b, _, none⟩) hblk).trans hx⟩

/-- What is read is kept where its block is kept. -/
theorem ReadC.kept {w w' : World} {T : TypeId} {v : Value} {l : List Value} {F : Nat → Prop} (h : ReadC w T v l) (hs : Same F w w') (hF : ∀ k, v.ownBlock = some k → ¬ F k) : ReadC w' T v l := by
  obtain ⟨ao, cap, rfl, hc, hcap⟩ := h
  refine ⟨ao, cap, rfl, fun j x hj => ?_, hcap⟩
  obtain ⟨b, off, cs, fr, rfl, hb, hx⟩ := hc j x hj
  have hblk := hs.block b (lt_of_block hb) (hF b rfl)
  exact ⟨b, off, cs, fr, rfl, hblk.trans hb, (World.cell?_of_block (a := ⟨b, _, none⟩) hblk).trans hx⟩

/-- A row is kept by whatever turns heads of trees, or other blocks. -/
theorem ReadC.keep {w w' : World} {T : TypeId} {v : Value} {l : List Value} {F P : Nat → Prop} (h : ReadC w T v l) (hs : Same F w w') (hF : ∀ k, F k → (∃ r n, w.heap[k]? = some (headObj r n)) ∨ ¬ P k) (hP : ∀ k, v.ownBlock = some k → P k) (hT : T ≠ 111) : ReadC w' T v l := by
  obtain ⟨ao, cap, rfl, hc, hcap⟩ := h
  refine ⟨ao, cap, rfl, fun j x hj => ?_, hcap⟩
  obtain ⟨b, off, cs, fr, rfl, hb, hx⟩ := hc j x hj
  have hn : ¬ F b := fun e => by
    rcases hF b e with ⟨r, n, hr⟩ | hn
    · have := hb.symm.trans hr
      simp at this
      exact hT this.2.1
    · exact hn (hP b rfl)
  have hblk := hs.block b (lt_of_block hb) hn
  exact ⟨b, off, cs, fr, rfl, hblk.trans hb, (World.cell?_of_block (a := ⟨b, _, none⟩) hblk).trans hx⟩

theorem node_keep {w : World} {b : Nat} {l k : Value} {n : Int} {F P : Nat → Prop} (hb : w.heap[b]? = some (nodeObj l k n)) (hF : ∀ k, F k → (∃ r n, w.heap[k]? = some (headObj r n)) ∨ ¬ P k) (hP : P b) : ¬ F b := fun e => by
  rcases hF b e with ⟨r, n, hr⟩ | hn
  · have := hb.symm.trans hr
    simp at this
  · exact hn hP

/-- A node is kept by whatever turns heads of trees, or blocks that it isn't made of. -/
theorem NodeAt.keep {w w' : World} {F P : Nat → Prop} (hs : Same F w w') (hF : ∀ k, F k → (∃ r n, w.heap[k]? = some (headObj r n)) ∨ ¬ P k) : ∀ {h b s : Nat} {L : List En}, NodeAt w P h b s L → NodeAt w' P h b s L
  | 0, _, _, _, ⟨e, h8, hp, l, hb, hr, hl⟩ => ⟨e, h8, hp, l, hs.obj hb (node_keep hb hF hp), hr.keep hs hF (fun k e => (hl k e).1) (by decide), fun k e => ⟨(hl k e).1, Nat.lt_of_lt_of_le (hl k e).2 hs.size⟩⟩
  | _ + 1, _, _, _, ⟨h8, h0, hp, k, ks, hl, hb, hr, hkp, e, hk⟩ =>
    ⟨h8, h0, hp, k, ks, hl, hs.obj hb (node_keep hb hF hp), hr.keep hs hF (fun k e => (hkp k e).1) (by decide), fun k e => ⟨(hkp k e).1, Nat.lt_of_lt_of_le (hkp k e).2 hs.size⟩, e, fun c hc => ⟨(hk c hc).1, NodeAt.keep hs hF (hk c hc).2⟩⟩

/-- Between two worlds in which only a head has turned. -/
theorem NodeAt.same {w w' : World} {P : Nat → Prop} {t : Nat} {r : Value} {c : Int} (ht : w.heap[t]? = some (headObj r c)) (hs : Same (fun k => k = t) w w') {h b s : Nat} {L : List En} (hn : NodeAt w P h b s L) : NodeAt w' P h b s L :=
  hn.keep hs (fun k e => by subst e; exact Or.inl ⟨_, _, ht⟩)

theorem NodeAt.mono {w : World} {P Q : Nat → Prop} (hPQ : ∀ k, k < w.heap.size → P k → Q k) : ∀ {h b s : Nat} {L : List En}, NodeAt w P h b s L → NodeAt w Q h b s L
  | 0, b, _, _, ⟨e, h8, hp, l, hb, hr, hl⟩ => ⟨e, h8, hPQ b (lt_of_block hb) hp, l, hb, hr, fun k hk => ⟨hPQ k (hl k hk).2 (hl k hk).1, (hl k hk).2⟩⟩
  | _ + 1, b, _, _, ⟨h8, h0, hp, k, ks, hl, hb, hr, hkp, e, hk⟩ => ⟨h8, h0, hPQ b (lt_of_block hb) hp, k, ks, hl, hb, hr, fun x hx => ⟨hPQ x (hkp x hx).2 (hkp x hx).1, (hkp x hx).2⟩, e, fun c hc => ⟨(hk c hc).1, NodeAt.mono hPQ (hk c hc).2⟩⟩

theorem NodeAt.count {w : World} {P : Nat → Prop} {h b s : Nat} {L : List En} (hn : NodeAt w P h b s L) : ∃ l k, w.heap[b]? = some (nodeObj l k L.length) := by
  cases h with
  | zero => obtain ⟨_, _, _, l, hb, _⟩ := hn; exact ⟨_, _, hb⟩
  | succ h => obtain ⟨_, _, _, k, ks, _, hb, _⟩ := hn; exact ⟨_, _, hb⟩

theorem NodeAt.few {w : World} {P : Nat → Prop} {h b s : Nat} {L : List En} (hn : NodeAt w P h b s L) : s ≤ 8 := by
  cases h with
  | zero => exact hn.2.1
  | succ h => exact hn.1

theorem NodeAt.at {w : World} {P : Nat → Prop} {h b s : Nat} {L : List En} (hn : NodeAt w P h b s L) : P b := by
  cases h with
  | zero => exact hn.2.2.1
  | succ h => exact hn.2.2.1

theorem kids_len (ks : List Kid) : ((ks.map fun k => (k.L.length : Int)).sum) = ((kidsL ks).length : Int) := by
  induction ks with
  | nil => rfl
  | cons k ks ih =>
    show (k.L.length : Int) + (ks.map fun k => (k.L.length : Int)).sum = ((k.L ++ kidsL ks).length : Int)
    rw [ih, List.length_append]
    omega

theorem kid_le {ks : List Kid} {k : Kid} (h : k ∈ ks) : k.L.length ≤ (kidsL ks).length := by
  induction ks with
  | nil => cases h
  | cons c ks ih =>
    have e : kidsL (c :: ks) = c.L ++ kidsL ks := rfl
    rw [e, List.length_append]
    rcases List.mem_cons.1 h with rfl | h
    · omega
    · have := ih h; omega

theorem kids_one (ks : List Kid) : ∀ x ∈ kidsV ks, x.oneCell' = true := by
  intro x hx
  obtain ⟨y, _, rfl⟩ := List.mem_map.1 hx
  rfl

/-- A row of the call's own can be read. -/
theorem ownsRow_read {w : World} {B : Nat} {T : TypeId} {v : Value} {n : Nat} {xs : List Value} (h : w.ownsRow B T 1 v n xs) : ReadC w T v xs := by
  obtain ⟨hl, h2⟩ := h
  rw [Nat.mul_one] at hl
  subst hl
  rcases h2 with ⟨rfl, h0⟩ | ⟨g, cap, cur, rfl, hb, hg, hnc, hcm, hcs, ht⟩
  · refine ⟨none, 0, by rw [h0], fun j x hj => ?_, by omega⟩
    rw [List.length_eq_zero_iff.1 h0] at hj
    cases hj
  · refine ⟨some ⟨g, 0, none⟩, cap, rfl, fun j x hj => ⟨g, 0, cur, (0, 0), rfl, hg, ?_⟩, hnc⟩
    rw [Nat.mul_one] at ht
    rw [← ht, List.getElem?_take] at hj
    split at hj
    · simp only [World.cell?, hg, Nat.zero_add]
      simpa using hj
    · cases hj

theorem ReadC.cell {w : World} {T : TypeId} {b off n cap : Nat} {l : List Value} (h : ReadC w T (.slice (some ⟨b, off, none⟩) n cap) l) {j : Nat} {x : Value} (hj : l[j]? = some x) : w.cell? ⟨b, off + j, none⟩ = some x := by
  obtain ⟨ao, c, e, hc, _⟩ := h
  obtain ⟨b', off', cs, fr, rfl, hb, hx⟩ := hc j x hj
  simp only [Value.slice.injEq, Option.some.injEq, Addr.mk.injEq] at e
  obtain ⟨⟨rfl, rfl, _⟩, _, _⟩ := e
  exact hx

/-- A row that isn't empty lies somewhere. -/
theorem ReadC.where {w : World} {T : TypeId} {v : Value} {l : List Value} (h : ReadC w T v l) (h0 : 0 < l.length) : ∃ b off cap cs fr, v = .slice (some ⟨b, off, none⟩) l.length cap ∧ w.heap[b]? = some (.cells cs T fr) ∧ l.length ≤ cap := by
  obtain ⟨ao, c, rfl, hc, hcap⟩ := h
  obtain ⟨b', off', cs, fr, rfl, hb, hx⟩ := hc 0 _ (List.getElem?_eq_getElem h0)
  exact ⟨b', off', c, cs, fr, rfl, hb, hcap⟩

theorem ReadC.take {w : World} {T : TypeId} {b off n cap : Nat} {l : List Value} (h : ReadC w T (.slice (some ⟨b, off, none⟩) n cap) l) {m : Nat} (hm : m ≤ n) : ReadC w T (.slice (some ⟨b, off, none⟩) m cap) (l.take m) := by
  obtain ⟨ao, c, e, hc, hcap⟩ := h
  simp only [Value.slice.injEq] at e
  obtain ⟨rfl, hn, rfl⟩ := e
  refine ⟨_, cap, by rw [List.length_take]; congr 1; omega, fun j x hj => ?_, by rw [List.length_take]; omega⟩
  rw [List.getElem?_take] at hj
  split at hj
  · exact hc j x hj
  · cases hj

theorem ReadC.drop {w : World} {T : TypeId} {b off n cap : Nat} {l : List Value} (h : ReadC w T (.slice (some ⟨b, off, none⟩) n cap) l) {m : Nat} (hm : m ≤ n) : ReadC w T (.slice (some ⟨b, off + m, none⟩) (n - m) (cap - m)) (l.drop m) := by
  obtain ⟨ao, c, e, hc, hcap⟩ := h
  simp only [Value.slice.injEq] at e
  obtain ⟨rfl, hn, rfl⟩ := e
  refine ⟨_, cap - m, by rw [List.length_drop, hn], fun j x hj => ?_, by rw [List.length_drop]; omega⟩
  rw [List.getElem?_drop] at hj
  obtain ⟨b', off', cs, fr, e, hb, hx⟩ := hc (m + j) x hj
  simp only [Option.some.injEq, Addr.mk.injEq] at e
  obtain ⟨rfl, rfl, _⟩ := e
  exact ⟨b, off + m, cs, fr, rfl, hb, by rw [Nat.add_assoc]; exact hx⟩

theorem ReadC.len {w : World} {T : TypeId} {ao : Option Addr} {n cap : Nat} {l : List Value} (h : ReadC w T (.slice ao n cap) l) : l.length = n := by
  obtain ⟨ao, c, e, _⟩ := h
  simp only [Value.slice.injEq] at e
  exact e.2.1.symm

theorem ReadZ.same {w w' : World} {T : TypeId} {v : Value} {l : List Value} {F : Nat → Prop} (h : ReadZ w T v l) (hs : Same F w w') (hF : ∀ k, F k → ∃ r n, w.heap[k]? = some (headObj r n)) (hT : T ≠ 111) : ReadZ w' T v l := by
  obtain ⟨ao, n, cap, hn, rfl, hc, hcap⟩ := h
  refine ⟨ao, n, cap, hn, rfl, fun j x hj => ?_, hcap⟩
  obtain ⟨b, off, cs, fr, rfl, hb, hx⟩ := hc j x hj
  have hn : ¬ F b := fun e => by
    obtain ⟨r, n, hr⟩ := hF b e
    have := hb.symm.trans hr
    simp at this
    exact hT this.2.1
  have hblk := hs.block b (lt_of_block hb) hn
  exact ⟨b, off, cs, fr, rfl, hblk.trans hb, (World.cell?_of_block (a := ⟨b, _, none⟩) hblk).trans hx⟩

theorem ReadZ.kept {w w' : World} {T : TypeId} {v : Value} {l : List Value} {F : Nat → Prop} (h : ReadZ w T v l) (hs : Same F w w') (hF : ∀ k, v.ownBlock = some k → ¬ F k) : ReadZ w' T v l := by
  obtain ⟨ao, n, cap, hn, rfl, hc, hcap⟩ := h
  refine ⟨ao, n, cap, hn, rfl, fun j x hj => ?_, hcap⟩
  obtain ⟨b, off, cs, fr, rfl, hb, hx⟩ := hc j x hj
  have hblk := hs.block b (lt_of_block hb) (hF b rfl)
  exact ⟨b, off, cs, fr, rfl, hblk.trans hb, (World.cell?_of_block (a := ⟨b, _, none⟩) hblk).trans hx⟩

theorem ReadZ.cell {w : World} {T : TypeId} {b off n cap : Nat} {l : List Value} (h : ReadZ w T (.slice (some ⟨b, off, none⟩) n cap) l) {j : Nat} {x : Value} (hj : l[j]? = some x) : w.cell? ⟨b, off + j, none⟩ = some x := by
  obtain ⟨ao, m, c, _, e, hc, _⟩ := h
  obtain ⟨b', off', cs, fr, rfl, hb, hx⟩ := hc j x hj
  simp only [Value.slice.injEq, Option.some.injEq, Addr.mk.injEq] at e
  obtain ⟨⟨rfl, rfl, _⟩, _, _⟩ := e
  exact hx

/-- A row of the call's own can be read. -/
theorem ownsRow_readZ {w : World} {B : Nat} {T : TypeId} {v : Value} {n : Nat} {xs : List Value} (h : w.ownsRow B T 2 v n xs) : ReadZ w T v xs := by
  obtain ⟨hl, h2⟩ := h
  rcases h2 with ⟨rfl, h0⟩ | ⟨g, cap, cur, rfl, hb, hg, hnc, hcm, hcs, ht⟩
  · refine ⟨none, n, 0, hl, by rw [h0], fun j x hj => ?_, by omega⟩
    subst h0
    have h9 : xs = [] := List.length_eq_zero_iff.1 (by omega)
    rw [h9] at hj
    cases hj
  · refine ⟨some ⟨g, 0, none⟩, n, cap, hl, rfl, fun j x hj => ⟨g, 0, cur, (0, 0), rfl, hg, ?_⟩, hnc⟩
    rw [← ht, List.getElem?_take] at hj
    split at hj
    · simp only [World.cell?, hg, Nat.zero_add]
      simpa using hj
    · cases hj

theorem ReadE.len {w : World} {ao : Option Addr} {n cap : Nat} {L : List En} (h : ReadE w (.slice ao n cap) L) : L.length = n := by
  obtain ⟨ao, m, c, hn, e, _⟩ := h
  simp only [Value.slice.injEq] at e
  rw [entsV_length] at hn
  omega

theorem ReadE.shape {w : World} {v : Value} {L : List En} (h : ReadE w v L) : ∃ ao cap, v = .slice ao L.length cap ∧ L.length ≤ cap := by
  obtain ⟨ao, m, c, hn, e, _, hc⟩ := h
  rw [entsV_length] at hn
  obtain rfl : L.length = m := by omega
  exact ⟨ao, c, e, hc⟩

/-- An entry's two cells. -/
theorem ReadE.entry {w : World} {b off n cap : Nat} {L : List En} (h : ReadE w (.slice (some ⟨b, off, none⟩) n cap) L) {j : Nat} {e : En} (hj : L[j]? = some e) : w.cell? ⟨b, off + j * 2, none⟩ = some (.slice e.ao e.n e.cap) ∧ w.cell? ⟨b, off + j * 2 + 1, none⟩ = some (.int .i64 e.id) := by
  obtain ⟨h1, h2⟩ := entsV_key hj
  exact ⟨ReadZ.cell h h1, by have := ReadZ.cell h h2; rwa [← Nat.add_assoc] at this⟩

/-- A row that isn't empty lies somewhere. -/
theorem ReadE.where {w : World} {v : Value} {L : List En} (h : ReadE w v L) (h0 : 0 < L.length) : ∃ b off cap cs fr, v = .slice (some ⟨b, off, none⟩) L.length cap ∧ w.heap[b]? = some (.cells cs 57 fr) ∧ L.length ≤ cap := by
  obtain ⟨ao, n, c, hn, rfl, hc, hcap⟩ := h
  rw [entsV_length] at hn
  obtain ⟨b', off', cs, fr, rfl, hb, hx⟩ := hc 0 _ (List.getElem?_eq_getElem (by rw [entsV_length]; omega))
  obtain rfl : L.length = n := by omega
  exact ⟨b', off', c, cs, fr, rfl, hb, hcap⟩

theorem ReadE.take {w : World} {b off n cap : Nat} {L : List En} (h : ReadE w (.slice (some ⟨b, off, none⟩) n cap) L) {m : Nat} (hm : m ≤ n) : ReadE w (.slice (some ⟨b, off, none⟩) m cap) (L.take m) := by
  have hl := ReadE.len h
  obtain ⟨ao, n', c, hn, e, hc, hcap⟩ := h
  simp only [Value.slice.injEq] at e
  obtain ⟨rfl, rfl, rfl⟩ := e
  refine ⟨_, m, cap, by rw [entsV_length, List.length_take]; congr 1; omega, rfl, fun j x hj => ?_, by omega⟩
  rw [entsV_take, List.getElem?_take] at hj
  split at hj
  · exact hc j x hj
  · cases hj

theorem ReadE.drop {w : World} {b off n cap : Nat} {L : List En} (h : ReadE w (.slice (some ⟨b, off, none⟩) n cap) L) {m : Nat} (hm : m ≤ n) : ReadE w (.slice (some ⟨b, off + m * 2, none⟩) (n - m) (cap - m)) (L.drop m) := by
  have hl := ReadE.len h
  obtain ⟨ao, n', c, hn, e, hc, hcap⟩ := h
  simp only [Value.slice.injEq] at e
  obtain ⟨rfl, rfl, rfl⟩ := e
  refine ⟨_, n - m, cap - m, by rw [entsV_length, List.length_drop, hl], rfl, fun j x hj => ?_, by omega⟩
  rw [entsV_drop, List.getElem?_drop] at hj
  obtain ⟨b', off', cs, fr, e, hb, hx⟩ := hc (m * 2 + j) x hj
  simp only [Option.some.injEq, Addr.mk.injEq] at e
  obtain ⟨rfl, rfl, _⟩ := e
  exact ⟨b, off + m * 2, cs, fr, rfl, hb, by rw [Nat.add_assoc]; exact hx⟩

end Go.Proofs.YtgfmemggfbgjeaaGreatDoor
