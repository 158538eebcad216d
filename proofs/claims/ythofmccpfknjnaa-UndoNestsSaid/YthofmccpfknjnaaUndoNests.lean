/-
  The statement UndoNests: the walk: what is done within what is done within a log. Conditions: the argument is a slice of bools that can be read.
-/
import Derived.Test.YthofmccpfknjnaaUndoE
import Derived.Deep.QuietTactic
import Derived.BigQuiet
namespace Go.Proofs.Ythofmccpfknjnaa
open Go.RowKit

def decF (nb : Nat) : Value := .func (.func 18) #[] #[.pointer (some ⟨nb, 0, none⟩)]

theorem nests11_calls (cap : Array Value) (w : World) : (callFunc 18 cap).run Try.prog w = .ok (.enter 18 cap) w := by kernel_rfl
theorem nests1_calls (cap : Array Value) (w : World) : (callFunc 17 cap).run Try.prog w = .ok (.enter 17 cap) w := by kernel_rfl
theorem nests2_calls (cap : Array Value) (w : World) : (callFunc 20 cap).run Try.prog w = .ok (.enter 20 cap) w := by kernel_rfl
theorem nests21_calls (cap : Array Value) (w : World) : (callFunc 21 cap).run Try.prog w = .ok (.enter 21 cap) w := by kernel_rfl

/-- Blocks that stay as they are: each with what it holds. -/
def Holds (Cs : List (Nat × Obj)) (w : World) : Prop := ∀ x ∈ Cs, w.heap[x.1]? = some x.2

/-- What the statement holds while the log holds gs: each step takes one off the count, which is as many as there are; the blocks of Cs are as they were. -/
structure NJ (w0 : World) (B R p nb : Nat) (Cs : List (Nat × Obj)) (gs : List Value) (w : World) : Prop where
  below : Below B w0 w
  nB : B ≤ nb
  np : nb ≠ p
  all : ∀ f ∈ gs, f = decF nb
  n : One w nb (.int .i64 gs.length) 3
  cs : Holds Cs w
  low : ∀ x ∈ Cs, x.1 ≠ p ∧ x.1 ≠ nb ∧ (x.1 < R ∨ ∀ cur, x.2 ≠ .cells cur 1 (0, 0))
  len : gs.length ≤ 1000
  size : R ≤ w.heap.size

theorem nests11_any {w : World} {b : Nat} (n : Int) (hn : 1 ≤ n) (hn2 : n ≤ 1000) (h : One w b (.int .i64 n) 3) :
    Calls Try.prog 18 #[.pointer (some ⟨b, 0, none⟩)] w fun e w' => e = .returned (.tuple #[]) ∧ w' = w.setCell ⟨b, 0, none⟩ (.int .i64 (n - 1)) := by
  have c0 := h.cell
  have f0 := h.free
  clear h
  go_enter Try.func18, Try.ntmps18
  go_wp2
  go_end0
  exact ⟨rfl, rfl⟩

section
variable {w0 w w' : World} {B R p nb : Nat} {Cs : List (Nat × Obj)} {gs : List Value}

theorem NJ.stab (h : NJ w0 B R p nb Cs gs w) (hk : LogKeptR B R p w w') : NJ w0 B R p nb Cs gs w' :=
  { below := h.below.trans hk.below, nB := h.nB, np := h.np, all := h.all, n := h.n.kept hk h.np (by decide)
    cs := fun x hx => by
      obtain ⟨h1, _, h3⟩ := h.low x hx
      rcases h3 with h3 | h3
      · exact hk.low (h.cs x hx) h1 h3
      · exact hk.one (h.cs x hx) h1 h3
    low := h.low, len := h.len, size := Nat.le_trans h.size hk.below.size }

/-- Where only blocks are turned that are none of its own. -/
theorem NJ.same {F : Nat → Prop} (h : NJ w0 B R p nb Cs gs w) (hs : Same F w w') (hn : ¬ F nb) (hc : ∀ x ∈ Cs, ¬ F x.1) (hB : B ≤ w.heap.size) (hF : ∀ k, F k → B ≤ k) : NJ w0 B R p nb Cs gs w' :=
  { below := hs.below h.below hB hF, nB := h.nB, np := h.np, all := h.all, n := hs.one h.n hn
    cs := fun x hx => hs.obj (h.cs x hx) (hc x hx), low := h.low, len := h.len, size := Nat.le_trans h.size hs.size }

theorem NJ.setN (h : NJ w0 B R p nb Cs gs w) (hs : List Value) (ha : ∀ f ∈ hs, f = decF nb) (hl : hs.length ≤ 1000) : NJ w0 B R p nb Cs hs (w.setCell ⟨nb, 0, none⟩ (.int .i64 hs.length)) :=
  { below := h.below.setCell h.nB _, nB := h.nB, np := h.np, all := ha, n := h.n.setCell _
    cs := fun x hx => (Below.heap_setCell _ _ _ _ (h.low x hx).2.1).trans (h.cs x hx), low := h.low, len := hl, size := by simpa [World.setCell] using h.size }

/-- More blocks that stay. -/
theorem NJ.more (h : NJ w0 B R p nb Cs gs w) (Ds : List (Nat × Obj)) (hd : Holds Ds w) (hl : ∀ x ∈ Ds, x.1 ≠ p ∧ x.1 ≠ nb ∧ (x.1 < R ∨ ∀ cur, x.2 ≠ .cells cur 1 (0, 0))) : NJ w0 B R p nb (Ds ++ Cs) gs w :=
  { h with
    cs := fun x hx => (List.mem_append.1 hx).elim (hd x) (h.cs x)
    low := fun x hx => (List.mem_append.1 hx).elim (hl x) (h.low x) }

theorem NJ.less (h : NJ w0 B R p nb Cs gs w) {Ds : List (Nat × Obj)} (hd : ∀ x ∈ Ds, x ∈ Cs) : NJ w0 B R p nb Ds gs w :=
  { h with cs := fun x hx => h.cs x (hd x hx), low := fun x hx => h.low x (hd x hx) }

theorem nests_step (gs : List Value) (f : Value) (w : World) (hJ : NJ w0 B R p nb Cs (gs ++ [f]) w) (hl : LogAtR w B R p gs) : StepOf B R p (NJ w0 B R p nb Cs) gs f w := by
  obtain rfl : f = decF nb := hJ.all f (by simp)
  have hn := hJ.n
  have hlen := hJ.len
  simp only [List.length_append, List.length_cons, List.length_nil, Nat.zero_add] at hn hlen
  refine ⟨_, _, rfl, nests11_calls _, (nests11_any _ (by omega) (by omega) hn).mono ?_⟩
  rintro e w' ⟨rfl, rfl⟩
  rw [show ((gs.length + 1 : Nat) : Int) - 1 = (gs.length : Int) by omega]
  exact ⟨rfl, hJ.setN gs (fun g hg => hJ.all g (by simp [hg])) (by omega), hl.setCell hn hJ.np (fun cur e => by cases e) _⟩

/-- 'add': one more is done, and the log knows how to take it back. -/
theorem nests1_any {lb : Nat} (hJ : NJ w0 B R p nb Cs gs w) (hL : LogAtR w B R p gs) (hl : One w lb (.pointer (some ⟨p, 0, none⟩)) 24) (hlp : lb ≠ p) (hn : gs.length ≤ 900) :
    Calls Try.prog 17 #[.pointer (some ⟨nb, 0, none⟩), .pointer (some ⟨lb, 0, none⟩)] w fun e w' => e = .returned (.tuple #[]) ∧ NJ w0 B R p nb Cs (gs ++ [decF nb]) w' ∧ LogAtR w' B R p (gs ++ [decF nb]) ∧
      LogKeptR B R p (w.setCell ⟨nb, 0, none⟩ (.int .i64 (gs ++ [decF nb]).length)) w' := by
  have hnl : nb ≠ lb := fun e => by
    subst e
    have := hJ.n.symm.trans hl
    simp at this
  have hj1 : NJ w0 B R p nb Cs (gs ++ [decF nb]) (w.setCell ⟨nb, 0, none⟩ (.int .i64 (gs ++ [decF nb]).length)) := hJ.setN _ (fun f hf => by
    rcases List.mem_append.1 hf with hf | hf
    · exact hJ.all f hf
    · simpa using hf) (by simp; omega)
  have hl1 : LogAtR (w.setCell ⟨nb, 0, none⟩ (.int .i64 (gs ++ [decF nb]).length)) B R p gs := hL.setCell hJ.n hJ.np (fun cur e => by cases e) _
  have hs1 : (w.setCell ⟨nb, 0, none⟩ (.int .i64 (gs ++ [decF nb]).length)).heap.size = w.heap.size := by simp [World.setCell]
  have hlen1 : (gs ++ [decF nb]).length = gs.length + 1 := by simp
  rw [hlen1] at hj1 hl1 hs1 ⊢
  have hnum : ((gs.length + 1 : Nat) : Int) = (gs.length : Int) + 1 := by omega
  rw [hnum] at hj1 hl1 hs1 ⊢
  have hR := hJ.size
  have c0 := hJ.n.cell
  have f0 := hJ.n.free
  have c1 := (hl.other (a := ⟨nb, 0, none⟩) (fun e => hnl e.symm) (.int .i64 ((gs.length : Int) + 1))).cell
  have HJ1 := Lib.hid hj1; have HL1 := Lib.hid hl1; have HS1 := Lib.hid hs1
  clear hJ hL hl hj1 hl1 hs1 hlen1 hnum
  go_enter Try.func17, Try.ntmps17
  go_wp2_with fail
  refine (add_any HL1.out (by rw [HS1.out]; exact hR) (by omega) _ _).mono ?_
  rintro e w3 ⟨rfl, hl3, hk3⟩
  have HJ3 := Lib.hid (HJ1.out.stab hk3); have HL3 := Lib.hid hl3; have HK3 := Lib.hid hk3
  clear hl3 hk3
  go_wp2_with fail
  go_end0
  exact ⟨rfl, HJ3.out, HL3.out, HK3.out⟩

abbrev errV (n : Int) : Value := .iface 38 (.int .i64 n)
def addObj (nb lb : Nat) : Obj := .cells #[.func (.func 17) #[] #[.pointer (some ⟨nb, 0, none⟩), .pointer (some ⟨lb, 0, none⟩)]] 1 (0, 0)
def boolObj (b : Bool) : Obj := .cells #[.bool b] 4 (0, 0)
def lObj (p : Nat) : Obj := .cells #[.pointer (some ⟨p, 0, none⟩)] 24 (0, 0)
def intObj (n : Int) : Obj := .cells #[.int .i64 n] 3 (0, 0)

/-- What is done within what is done: two more; then an error, or none. -/
theorem nests21_any {lb ab bb : Nat} {bad : Bool} (hJ : NJ w0 B R p nb Cs gs w) (hL : LogAtR w B R p gs) (ha : (ab, addObj nb lb) ∈ Cs) (hb : (bb, boolObj bad) ∈ Cs) (hl : (lb, lObj p) ∈ Cs) (hn : gs.length ≤ 800) :
    Calls Try.prog 21 #[.pointer (some ⟨ab, 0, none⟩), .pointer (some ⟨bb, 0, none⟩)] w fun e w' => e = .returned (if bad then errV 70 else .nilIface) ∧ NJ w0 B R p nb Cs (gs ++ [decF nb, decF nb]) w' ∧ LogAtR w' B R p (gs ++ [decF nb, decF nb]) := by
  have hlp := (hJ.low _ hl).1
  have c0 := cell_of_one (hJ.cs _ ha)
  have HJ := Lib.hid hJ; have HL := Lib.hid hL
  clear hJ hL
  go_enter Try.func21, Try.ntmps21
  go_wp2_with fail
  refine (nests1_any HJ.out HL.out (HJ.out.cs _ hl) hlp (by omega)).mono ?_
  rintro e w1 ⟨rfl, hj1, hl1, hk1⟩
  have c1 := cell_of_one (hj1.cs _ ha)
  have HJ1 := Lib.hid hj1; have HL1 := Lib.hid hl1
  clear hj1 hl1 hk1 c0
  go_wp2_with fail
  refine (nests1_any HJ1.out HL1.out (HJ1.out.cs _ hl) hlp (by simp; omega)).mono ?_
  rintro e w2 ⟨rfl, hj2, hl2, hk2⟩
  have c2 := cell_of_one (hj2.cs _ hb)
  rw [List.append_assoc] at hj2 hl2
  have HJ2 := Lib.hid hj2; have HL2 := Lib.hid hl2
  clear hj2 hl2 hk2 c1
  cases bad
  · go_wp2_with fail
    go_ret
    exact ⟨rfl, HJ2.out, HL2.out⟩
  · go_wp2_with fail
    go_ret
    exact ⟨rfl, HJ2.out, HL2.out⟩

/-- The blocks that Do lays stay too. -/
theorem NJ.doWorld (hJ : NJ w0 B R p nb Cs gs w) (hp : p < w.heap.size) (hB : B ≤ w.heap.size) (n : Nat) : NJ w0 B R p nb ([(w.heap.size, lObj p), (w.heap.size + 1, intObj n), (w.heap.size + 2, boolObj false)] ++ Cs) gs (doWorld w p n) := by
  have hnb := hJ.n.lt
  refine (hJ.same (do_same w p n) id (fun _ _ => id) hB (fun _ h => h.elim)).more _ (fun x hx => ?_) (fun x hx => ?_)
  · simp only [List.mem_cons, List.not_mem_nil, or_false] at hx
    rcases hx with rfl | rfl | rfl
    · exact do_l w p n
    · exact do_m w p n
    · exact do_w w p n
  · simp only [List.mem_cons, List.not_mem_nil, or_false] at hx
    rcases hx with rfl | rfl | rfl
    · exact ⟨by simp; omega, by simp; omega, Or.inr fun cur e => by cases e⟩
    · exact ⟨by simp; omega, by simp; omega, Or.inr fun cur e => by cases e⟩
    · exact ⟨by simp; omega, by simp; omega, Or.inr fun cur e => by cases e⟩

theorem LogAtR.pos (h : LogAtR w B R p gs) : p < w.heap.size := let ⟨_, _, _, hv, _⟩ := h; lt_of_block hv

theorem LogAtR.le (h : LogAtR w B R p gs) : B ≤ R := h.2.1

/-- The inner Do: if it errs all is as it was; else two more are done. -/
theorem nests_do {lb ab bb : Nat} {bad : Bool} (hJ : NJ w0 B R p nb Cs gs w) (hL : LogAtR w B R p gs) (ha : (ab, addObj nb lb) ∈ Cs) (hb : (bb, boolObj bad) ∈ Cs) (hl : (lb, lObj p) ∈ Cs) (hn : gs.length ≤ 700) :
    Calls Try.prog 19 #[.pointer (some ⟨p, 0, none⟩), .func (.func 21) #[] #[.pointer (some ⟨ab, 0, none⟩), .pointer (some ⟨bb, 0, none⟩)]] w fun e w' =>
      e = .returned (if bad then errV 70 else .nilIface) ∧ NJ w0 B R p nb Cs (if bad then gs else gs ++ [decF nb, decF nb]) w' ∧ LogAtR w' B R p (if bad then gs else gs ++ [decF nb, decF nb]) := by
  have hBs : B ≤ w.heap.size := Nat.le_trans hL.le hJ.size
  have hJ1 := hJ.doWorld hL.pos hBs gs.length
  have hL1 : LogAtR (doWorld w p gs.length) B R p gs := ((hL.alloc _).alloc _).alloc _
  have hcall := nests21_any hJ1 hL1 (List.mem_append_right _ ha) (List.mem_append_right _ hb) (List.mem_append_right _ hl) (by omega)
  have hnb := hJ.n.lt
  have hcs : ∀ x ∈ Cs, x.1 < w.heap.size := fun x hx => lt_of_block (hJ.cs x hx)
  -- behind the call: a store into the last of the three blocks
  have hset : ∀ {hs : List Value} {w' : World} (b : Bool), NJ w0 B R p nb ([(w.heap.size, lObj p), (w.heap.size + 1, intObj gs.length), (w.heap.size + 2, boolObj false)] ++ Cs) hs w' →
      NJ w0 B R p nb Cs hs (w'.setCell ⟨w.heap.size + 2, 0, none⟩ (.bool b)) := fun b h =>
    (h.less (Ds := Cs) (fun x hx => List.mem_append_right _ hx)).same (F := fun k => k = w.heap.size + 2) ((Same.refl (fun k => k = w.heap.size + 2) _).setCell (p := ⟨w.heap.size + 2, 0, none⟩) (fun _ => rfl) _) (by omega) (fun x hx e => by have := hcs x hx; omega) (by
      have := lt_of_block (h.cs (w.heap.size + 2, boolObj false) (by simp))
      simp only at this
      omega) (fun k e => by omega)
  cases bad with
  | false =>
    refine (do_nil hL _ _ (nests21_calls _) (fun w' => NJ w0 B R p nb ([(w.heap.size, lObj p), (w.heap.size + 1, intObj gs.length), (w.heap.size + 2, boolObj false)] ++ Cs) (gs ++ [decF nb, decF nb]) w' ∧ LogAtR w' B R p (gs ++ [decF nb, decF nb])) hcall ?_).mono ?_
    · rintro w' ⟨h, _⟩
      exact h.cs (w.heap.size + 2, boolObj false) (by simp)
    · rintro e w' ⟨rfl, w1, ⟨h1, h2⟩, rfl⟩
      have hw := h1.cs (w.heap.size + 2, boolObj false) (by simp)
      have hp := hL.pos
      exact ⟨rfl, hset _ h1, h2.setCell hw (by simp only; omega) (fun cur e => by cases e) _⟩
  | true =>
    refine (do_err hL _ _ (nests21_calls _) 38 (.int .i64 70) (NJ w0 B R p nb Cs) (fun hs f w hj hl => nests_step hs f w hj hl) (fun hs w w' hj hk => hj.stab hk) (hcall.mono ?_)).mono ?_
    · rintro e w' ⟨rfl, h1, h2⟩
      have hw := h1.cs (w.heap.size + 2, boolObj false) (by simp)
      have hp := hL.pos
      exact ⟨rfl, h1.cs (w.heap.size, lObj p) (by simp), h1.cs (w.heap.size + 1, intObj gs.length) (by simp), hw, [decF nb, decF nb], by simp; omega, h2.setCell hw (by simp only; omega) (fun cur e => by cases e) _, hset _ h1⟩
    · rintro e w' ⟨rfl, h1, h2⟩
      exact ⟨rfl, h1, h2⟩

/-- The outer work: one more is done, then each inner one. -/
structure N2 (w0 : World) (B R p nb wb : Nat) (Cs : List (Nat × Obj)) (W : Nat) (w : World) : Prop where
  nj : NJ w0 B R p nb ((wb, intObj W) :: Cs) (List.replicate (W + 1) (decF nb)) w
  log : LogAtR w B R p (List.replicate (W + 1) (decF nb))

theorem hN_l {X : List (Nat × Obj)} {x : Nat × Obj} {lb : Nat} (h : NJ w0 B R p nb (x :: X) gs w) (hl : (lb, lObj p) ∈ X) : w.heap[lb]? = some (lObj p) := h.cs _ (List.mem_cons_of_mem _ hl)

set_option maxRecDepth 100000 in
set_option maxHeartbeats 1000000 in
theorem nests2_any {ab ib lb wb ob sb soff len cap : Nat} {a0 : Option Addr} {outer : Bool} (hJ : NJ w0 B R p nb ((wb, intObj 1) :: Cs) [decF nb] w) (hL : LogAtR w B R p [decF nb])
    (ha : (ab, addObj nb lb) ∈ Cs) (hi : (ib, .cells #[.slice a0 len cap] 34 (0, 0)) ∈ Cs) (hl : (lb, lObj p) ∈ Cs) (ho : (ob, boolObj outer) ∈ Cs) (hw : ∀ x ∈ Cs, x.1 ≠ wb) (hBw : B ≤ wb)
    (hlen : len ≤ 12) (ha0 : 0 < len → a0 = some ⟨sb, soff, none⟩) (hsb : 0 < len → sb < B) (hcells : ∀ k, k < len → ∃ b, w0.cell? ⟨sb, soff + k, none⟩ = some (.bool b)) :
    Calls Try.prog 20 #[.pointer (some ⟨ab, 0, none⟩), .pointer (some ⟨ib, 0, none⟩), .pointer (some ⟨lb, 0, none⟩), .pointer (some ⟨wb, 0, none⟩), .pointer (some ⟨nb, 0, none⟩), .pointer (some ⟨ob, 0, none⟩)] w fun e w' =>
      e = .returned (if outer then errV 70 else .nilIface) ∧ ∃ W : Nat, W ≤ 100 ∧ N2 w0 B R p nb wb Cs W w' := by
  have hlp := (hJ.low _ (List.mem_cons_of_mem _ hl)).1
  have c0 := cell_of_one (hJ.cs _ (List.mem_cons_of_mem _ ha))
  have HJ := Lib.hid hJ; have HL := Lib.hid hL; have HA0 := Lib.hid ha0; have HCE := Lib.hid hcells; have HSB := Lib.hid hsb
  clear hJ hL ha0 hcells hsb
  go_enter Try.func20, Try.ntmps20
  go_wp2_with fail
  refine (nests1_any HJ.out HL.out (HJ.out.cs _ (List.mem_cons_of_mem _ hl)) hlp (by simp)).mono ?_
  rintro e w1 ⟨rfl, hj1, hl1, hk1⟩
  have HN := Lib.hid (N2.mk (W := 1) hj1 hl1)
  clear hj1 hl1 hk1 c0
  go_wp2_with fail
  go_loopg [7] len (fun r i wr => ∃ k : Nat, k + r = len ∧ i = .int .i64 k ∧ ∃ W : Nat, W ≤ 1 + 2 * k ∧ N2 w0 B R p nb wb Cs W wr)
  case atStart => exact ⟨0, by omega, rfl, 1, by omega, HN.out⟩
  case round =>
    obtain ⟨k, hk, rfl, W, hW, hN⟩ := hrel
    have ci := cell_of_one (hN.nj.cs _ (List.mem_cons_of_mem _ hi))
    have co := cell_of_one (hN.nj.cs _ (List.mem_cons_of_mem _ ho))
    have HN2 := Lib.hid hN
    clear hN
    by_cases hlt : k < len
    · obtain ⟨r, rfl⟩ : ∃ r, gk = r + 1 := ⟨gk - 1, by omega⟩
      have HK := Lib.hid hk; clear hk
      have ha0 := HA0.out (by omega)
      subst ha0
      obtain ⟨bad, hbad⟩ := HCE.out k hlt
      have cb : wr.cell? ⟨sb, soff + k, none⟩ = some (.bool bad) := (HN2.out.nj.below.cell (p := ⟨sb, soff + k, none⟩) (HSB.out (by omega))).trans hbad
      have hp4 := HN2.out.log.pos
      have hnb4 := HN2.out.nj.n.lt
      have hB4 : B ≤ wr.heap.size := Nat.le_trans HN2.out.log.le HN2.out.nj.size
      have hj4 : NJ w0 B R p nb ([(wr.heap.size, boolObj bad)] ++ ((wb, intObj W) :: Cs)) (List.replicate (W + 1) (decF nb)) (wr.alloc (.cells #[.bool bad] 4)) :=
        (HN2.out.nj.same ((Same.refl (fun _ => False) wr).alloc _) id (fun _ _ => id) hB4 (fun _ h => h.elim)).more _ (fun x hx => by
          simp only [List.mem_cons, List.not_mem_nil, or_false] at hx
          subst hx
          exact One.new _ _ _) (fun x hx => by
          simp only [List.mem_cons, List.not_mem_nil, or_false] at hx
          subst hx
          exact ⟨by simp only; omega, by simp only; omega, Or.inr fun cur e => by cases e⟩)
      have cl := cell_of_one (hj4.cs (lb, lObj p) (by simp [hl]))
      have HJ4 := Lib.hid hj4; have HL4 := Lib.hid (HN2.out.log.alloc (.cells #[.bool bad] 4))
      clear hbad hj4
      go_wp2_with fail
      refine (nests_do (lb := lb) (bad := bad) HJ4.out HL4.out (by simp [ha]) (by simp) (by simp [hl]) (by simp; omega)).mono ?_
      rintro e w5 ⟨rfl, hj5, hl5⟩
      cases bad
      · simp only [Bool.false_eq_true, if_false] at hj5 hl5
        have hrep : List.replicate (W + 1) (decF nb) ++ [decF nb, decF nb] = List.replicate (W + 2 + 1) (decF nb) := by
          rw [List.replicate_succ' (n := W + 2), List.replicate_succ' (n := W + 1)]
          simp
        rw [hrep] at hj5 hl5
        have hw5 : One w5 wb (.int .i64 W) 3 := hj5.cs (wb, intObj W) (by simp)
        have cb5 := cell_of_one (hj5.cs (wr.heap.size, boolObj false) (by simp))
        have cw5 := hw5.cell
        have fw5 := hw5.free
        have cn5 := hj5.n.cell
        have hwn : wb ≠ nb := (hj5.low (wb, intObj W) (by simp)).2.1
        have hwp : wb ≠ p := (hj5.low (wb, intObj W) (by simp)).1
        rw [List.length_replicate, show ((W + 2 + 1 : Nat) : Int) = (W : Int) + 2 + 1 by omega] at cn5
        have hB5 : B ≤ w5.heap.size := Nat.le_trans hl5.le hj5.size
        have hj6 : NJ w0 B R p nb ((wb, intObj (W + 2 : Nat)) :: Cs) (List.replicate (W + 2 + 1) (decF nb)) (w5.setCell ⟨wb, 0, none⟩ (.int .i64 ((W : Int) + 2))) :=
          ((hj5.less (Ds := Cs) (fun x hx => by simp [hx])).same (F := fun k => k = wb) ((Same.refl (fun k => k = wb) _).setCell (p := ⟨wb, 0, none⟩) (fun _ => rfl) _) (fun e => hwn e.symm) (fun x hx e => hw x hx e) hB5 (fun k e => by omega)).more [(wb, intObj (W + 2 : Nat))] (fun x hx => by
            simp only [List.mem_cons, List.not_mem_nil, or_false] at hx
            subst hx
            exact hw5.setCell _) (fun x hx => by
            simp only [List.mem_cons, List.not_mem_nil, or_false] at hx
            subst hx
            exact ⟨hwp, hwn, Or.inr fun cur e => by cases e⟩)
        have hl6 : LogAtR (w5.setCell ⟨wb, 0, none⟩ (.int .i64 ((W : Int) + 2))) B R p (List.replicate (W + 2 + 1) (decF nb)) := hl5.setCell hw5 hwp (fun cur e => by cases e) _
        have HJ6 := Lib.hid hj6; have HL6 := Lib.hid hl6
        clear hj5 hl5 cl ci co cb hrep hw5 hj6 hl6
        go_wp2_with fail
        go_quiet (fail)
        go_wp2_with fail
        go_roundg r
        case measure => omega
        case rel => exact ⟨k + 1, by have := HK.out; omega, by go_num, W + 2, by omega, ⟨HJ6.out.same ((Same.refl (fun _ => False) _).drewN nq) id (fun _ _ => id) (Nat.le_trans HL6.out.le HJ6.out.size) (fun _ h => h.elim), HL6.out.kept (fun _ _ _ => rfl)⟩⟩
      · simp only [if_true] at hj5 hl5
        have hw5 : One w5 wb (.int .i64 W) 3 := hj5.cs (wb, intObj W) (by simp)
        have cb5 := cell_of_one (hj5.cs (wr.heap.size, boolObj true) (by simp))
        have cw5 := hw5.cell
        have cn5 := hj5.n.cell
        rw [List.length_replicate, show ((W + 1 : Nat) : Int) = (W : Int) + 1 by omega] at cn5
        have HJ6 := Lib.hid (hj5.less (Ds := (wb, intObj W) :: Cs) (fun x hx => by simp at hx ⊢; right; exact hx)); have HL6 := Lib.hid hl5
        clear hj5 hl5 cl ci co cb hw5
        go_wp2_with fail
        go_quiet (fail)
        go_wp2_with fail
        go_roundg r
        case measure => omega
        case rel => exact ⟨k + 1, by have := HK.out; omega, by go_num, W, by omega, ⟨HJ6.out.same ((Same.refl (fun _ => False) _).drewN nq) id (fun _ _ => id) (Nat.le_trans HL6.out.le HJ6.out.size) (fun _ h => h.elim), HL6.out.kept (fun _ _ _ => rfl)⟩⟩
    · have hke : k = len := by omega
      have HKE := Lib.hid hke
      clear hke hk
      cases outer
      · go_wp2_with fail
        go_ret
        exact ⟨rfl, W, by have := HKE.out; omega, HN2.out⟩
      · go_wp2_with fail
        go_ret
        exact ⟨rfl, W, by have := HKE.out; omega, HN2.out⟩
end

end Go.Proofs.Ythofmccpfknjnaa
