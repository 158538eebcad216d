/-
  ordidx's laws: two appends in a region that draws its order. Conditions: the rows aren't long.
-/
import Derived.Test.YtgfmemggfbgjeaaGreatDoorM53
import Derived.Deep.AppendLies
namespace Go.Proofs.YtgfmemggfbgjeaaGreatDoor
open Go.RowKit Go.Extern.Stop Go.Stop Go.Extern Go.Lib
set_option maxRecDepth 1000000

theorem infoint : ∃ i, Tryz.prog.info? 3 = some i ∧ i.zero = some (.int .i64 0) ∧ i.size = 1 ∧ i.bytes = 8 :=
  ⟨_, rfl, rfl, rfl, rfl⟩

theorem step_at {ops : Array Oper} {o : Oper} {a : Act} {K : Act → World → Prop} {Q : Exit → Act → World → Prop} {E : Prop} (W : World) (hgd : o.guard = none) (s x : Operand)
    (ho : o.op = .call { callee := .builtin .append, args := #[s, x], argTypes := #[70, 70] }) (N n b : Nat) (v : Value) (xs : List Value) (p : Int) (hs : a.eval s = v) (hown : W.ownsRow N 3 1 v n xs) (hx : a.eval x = .slice (some ⟨b, 0, none⟩) 1 1)
    (hb : W.heap[b]? = some (.cells #[.int .i64 p] 3 (0, 0))) (hn : n ≤ 1000) (hN : N ≤ W.heap.size)
    (h : ∀ g cap w', w'.ownsRow N 3 1 (.slice (some ⟨g, 0, none⟩) (n + 1) cap) (n + 1) (xs ++ [.int .i64 p]) → Same (fun k => v.ownBlock = some k) W w' → (v.ownBlock = some g ∨ W.heap.size ≤ g) → K (a.put o.dst (.slice (some ⟨g, 0, none⟩) (n + 1) cap)) w') :
    if Region.wanted o (yielded ops a.tmps) = true then Oper.wp Tryz.prog o a W K Q else E := by
  obtain ⟨i, hi, hz, hsz, hby⟩ := infoint
  refine step_append_lies (w := W) hgd s x 70 ho N 3 i (.int .i64 0) 1 8 Tryz.underlying70 hi hz hsz hby rfl (by omega) v n xs hs hown ⟨b, 0, none⟩ 1 1 [.int .i64 p] hx rfl (World.news_of_block hb) (by intro u hu; simp at hu; subst hu; rfl) (by omega) (by unfold maxLen; omega) (by omega) hN _ rfl ?_
  intro g cap w' h1 h2 h3 _
  exact h g cap w' h1 ((Same.refl _ W).grown h2 (fun k hk _ => hk)) (h3.imp id (fun e => by omega))

theorem step_gone {ops : Array Oper} {o : Oper} {a : Act} {K : Act → World → Prop} {Q : Exit → Act → World → Prop} {E : Prop} (W : World) (hgd : o.guard = none) (s x : Operand)
    (ho : o.op = .call { callee := .builtin .append, args := #[s, x], argTypes := #[61, 61] }) (N n b : Nat) (v : Value) (xs : List Value) (yo : Option Addr) (yn yc : Nat) (yi : Int) (hs : a.eval s = v) (hown : W.ownsRow N 57 2 v n xs) (hx : a.eval x = .slice (some ⟨b, 0, none⟩) 1 1)
    (hb : W.heap[b]? = some (.cells #[.slice yo yn yc, .int .i64 yi] 57 (0, 0))) (hn : n ≤ 1000) (hN : N ≤ W.heap.size)
    (h : ∀ g cap w', w'.ownsRow N 57 2 (.slice (some ⟨g, 0, none⟩) (n + 1) cap) (n + 1) (xs ++ [.slice yo yn yc, .int .i64 yi]) → Same (fun k => v.ownBlock = some k) W w' → (v.ownBlock = some g ∨ W.heap.size ≤ g) → K (a.put o.dst (.slice (some ⟨g, 0, none⟩) (n + 1) cap)) w') :
    if Region.wanted o (yielded ops a.tmps) = true then Oper.wp Tryz.prog o a W K Q else E := by
  obtain ⟨i, hi, hz, hsz, hby⟩ := infoi
  refine step_append_lies (w := W) hgd s x 61 ho N 57 i (.agg #[.slice none 0 0, .int .i64 0]) 2 32 Tryz.underlying61 hi hz hsz hby rfl (by omega) v n xs hs hown ⟨b, 0, none⟩ 1 1 [.slice yo yn yc, .int .i64 yi] hx rfl (World.news_of_block hb) (by intro u hu; simp at hu; rcases hu with rfl | rfl <;> rfl) (by omega) (by unfold maxLen; omega) (by omega) hN _ rfl ?_
  intro g cap w' h1 h2 h3 _
  exact h g cap w' h1 ((Same.refl _ W).grown h2 (fun k hk _ => hk)) (h3.imp id (fun e => by omega))

/-- Rows of two types lie in two blocks. -/
theorem own_apart {w : World} {B B' n m s1 s2 : Nat} {T1 T2 : TypeId} {v u : Value} {xs ys : List Value} (h1 : w.ownsRow B T1 s1 v n xs) (h2 : w.ownsRow B' T2 s2 u m ys) (hT : T1 ≠ T2) {k : Nat} (hv : v.ownBlock = some k) : u.ownBlock ≠ some k := by
  intro hu
  rcases h1.2 with ⟨rfl, _⟩ | ⟨g, cap, cur, rfl, _, hg, _⟩
  · cases hv
  · rcases h2.2 with ⟨rfl, _⟩ | ⟨g', cap', cur', rfl, _, hg', _⟩
    · cases hu
    · have e1 : g = k := by simpa [Value.ownBlock] using hv
      have e2 : g' = k := by simpa [Value.ownBlock] using hu
      rw [e1] at hg
      rw [e2] at hg'
      have := hg.symm.trans hg'
      simp at this
      exact hT this.2

/-- What both appends leave. -/
theorem two_end {w W1 wA W2 wB : World} {N n g1 c1 g2 c2 : Nat} {va vg : Value} {xs ys xs' ys' : List Value} (ha : w.ownsRow N 3 1 va n xs) (hg : w.ownsRow N 57 2 vg n ys) (s1 : Same (fun _ => False) w W1) (o1 : wA.ownsRow N 3 1 (.slice (some ⟨g1, 0, none⟩) (n + 1) c1) (n + 1) xs') (s2 : Same (fun k => va.ownBlock = some k) W1 wA) (t1 : va.ownBlock = some g1 ∨ W1.heap.size ≤ g1)
    (s3 : Same (fun _ => False) wA W2) (o2 : wB.ownsRow N 57 2 (.slice (some ⟨g2, 0, none⟩) (n + 1) c2) (n + 1) ys') (s4 : Same (fun k => vg.ownBlock = some k) W2 wB) (t2 : vg.ownBlock = some g2 ∨ W2.heap.size ≤ g2) :
    wB.ownsRow N 3 1 (.slice (some ⟨g1, 0, none⟩) (n + 1) c1) (n + 1) xs' ∧ wB.ownsRow N 57 2 (.slice (some ⟨g2, 0, none⟩) (n + 1) c2) (n + 1) ys' ∧ Same (fun k => va.ownBlock = some k ∨ vg.ownBlock = some k) w wB ∧ (va.ownBlock = some g1 ∨ w.heap.size ≤ g1) ∧ (vg.ownBlock = some g2 ∨ w.heap.size ≤ g2) ∧ g1 < wB.heap.size ∧ g2 < wB.heap.size ∧ N ≤ g1 ∧ N ≤ g2 := by
  have e1 := s1.size; have e2 := s2.size; have e3 := s3.size; have e4 := s4.size
  have hap : ∀ k, (Value.slice (some ⟨g1, 0, none⟩) (n + 1) c1).ownBlock = some k → ¬ vg.ownBlock = some k := fun k hk he => by
    have e : g1 = k := by simpa [Value.ownBlock] using hk
    have hl := (hg.lt k he).2
    rcases t1 with h | h
    · exact own_apart ha hg (by decide) h (by rw [e]; exact he)
    · omega
  have oA := s4.row (s3.row o1 (fun _ _ => id)) hap
  have gA := oA.lt g1 rfl
  have gB := o2.lt g2 rfl
  refine ⟨oA, o2, ⟨s4.os.trans (s3.os.trans (s2.os.trans s1.os)), s4.tape.trans (s3.tape.trans (s2.tape.trans s1.tape)), s4.output.trans (s3.output.trans (s2.output.trans s1.output)), by omega, fun k hk hn => ?_⟩, t1.imp id (fun h => by omega), t2.imp id (fun h => by omega), gA.2, gB.2, gA.1, gB.1⟩
  exact (s4.block k (by omega) (fun h => hn (Or.inr h))).trans ((s3.block k (by omega) id).trans ((s2.block k (by omega) (fun h => hn (Or.inl h))).trans (s1.block k hk id)))

end Go.Proofs.YtgfmemggfbgjeaaGreatDoor
