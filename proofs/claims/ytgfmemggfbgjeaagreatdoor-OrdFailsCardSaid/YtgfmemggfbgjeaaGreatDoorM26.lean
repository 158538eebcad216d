/-
  tree's Search: what its two questions answer, by what the asked function does. Conditions: few elements.
-/
import Derived.Test.YtgfmemggfbgjeaaGreatDoorM25
import Derived.Shelf.Abstract
namespace Go.Proofs.YtgfmemggfbgjeaaGreatDoor
open Go.RowKit Go.Extern.Stop Go.Stop Go.Extern Go.Lib
set_option maxRecDepth 1000000

/-- The function that search hands over. -/
abbrev askV (pb px pk ps : Nat) : Value := .func (.func 66) #[] #[.pointer (some ⟨pb, 0, none⟩), .pointer (some ⟨px, 0, none⟩), .pointer (some ⟨pk, 0, none⟩), .pointer (some ⟨ps, 0, none⟩)]

/-- What the asked function does, by a state that it keeps: 'G m st w': whether it has failed; the blocks from a up to m are the search's own. -/
structure Asks (a : Nat) (w0 : World) (P : Nat → Prop) (pb px pk ps : Nat) (L : List En) (so : En → Bool) (G : Nat → Bool → World → Prop) : Prop where
  stab : ∀ {m : Nat} {st : Bool} {w w' : World}, G m st w → Same (fun k => a ≤ k ∧ k < m) w w' → G m st w'
  grow : ∀ {w : World}, G a false w → a ≤ w.heap.size → G w.heap.size false w
  kept : ∀ {m : Nat} {st : Bool} {w : World}, G m st w → Same (fun k => ¬ P k) w0 w
  size : w0.heap.size = a
  call : ∀ {m : Nat} {st : Bool} {w : World} {e : En}, G m st w → a ≤ m → m ≤ w.heap.size → e ∈ L → Calls Tryz.prog 66 #[e.agg, .pointer (some ⟨pb, 0, none⟩), .pointer (some ⟨px, 0, none⟩), .pointer (some ⟨pk, 0, none⟩), .pointer (some ⟨ps, 0, none⟩)] w fun r w' =>
    ∃ (b st' : Bool), r = .returned (.bool b) ∧ G m st' w' ∧ (st' = false → st = false ∧ b = so e) ∧ Same (fun k => ¬ (a ≤ k ∧ k < m)) w w'

/-- What stands between two questions: the asked function's state, the search's own boxes. -/
structure Between (a m : Nat) (G : Nat → Bool → World → Prop) (bf bx x pb px pk ps : Nat) (st : Bool) (w : World) : Prop where
  hst : G m st w
  hf : w.cell? ⟨bf, 0, none⟩ = some (askV pb px pk ps)
  hx : w.heap[bx]? = some (.cells #[.pointer (some ⟨x, 0, none⟩)] 109 (0, 0))
  hm : m ≤ w.heap.size
  ham : a ≤ m
  hbf : a ≤ bf ∧ bf < m
  hbx : a ≤ bx ∧ bx < m

theorem Between.cx {a m : Nat} {G : Nat → Bool → World → Prop} {pb px pk ps bf bx x : Nat} {st : Bool} {w : World} (h : Between a m G bf bx x pb px pk ps st w) : w.cell? ⟨bx, 0, none⟩ = some (.pointer (some ⟨x, 0, none⟩)) ∧ w.frozen? ⟨bx, 0, none⟩ = false ∧ bx < w.heap.size :=
  ⟨by simp [World.cell?, h.hx], by simp [World.frozen?, h.hx], lt_of_block h.hx⟩

theorem Between.kept {a m : Nat} {w0 : World} {P : Nat → Prop} {pb px pk ps bf bx x : Nat} {L : List En} {so : En → Bool} {G : Nat → Bool → World → Prop} (hA : Asks a w0 P pb px pk ps L so G) {st : Bool} {w w' : World} (h : Between a m G bf bx x pb px pk ps st w) (hs : Same (fun _ => False) w w') : Between a m G bf bx x pb px pk ps st w' := by
  have hm := h.hm
  exact ⟨hA.stab h.hst (hs.weaken (fun _ _ h => h.elim)), (World.cell?_of_block (a := ⟨bf, 0, none⟩) (hs.block bf (by have := h.hbf; omega) id)).trans h.hf, hs.obj h.hx id, Nat.le_trans h.hm hs.size, h.ham, h.hbf, h.hbx⟩

theorem Between.next {a m : Nat} {G : Nat → Bool → World → Prop} {pb px pk ps bf bx x : Nat} {st st' : Bool} {w w' : World} (h : Between a m G bf bx x pb px pk ps st w) (hG : G m st' w') (hs : Same (fun k => ¬ (a ≤ k ∧ k < m)) w w') : Between a m G bf bx x pb px pk ps st' w' := by
  have hm := h.hm
  exact ⟨hG, (World.cell?_of_block (a := ⟨bf, 0, none⟩) (hs.block bf (by have := h.hbf; omega) (fun hn => hn h.hbf))).trans h.hf, hs.obj h.hx (fun hn => hn h.hbx), Nat.le_trans h.hm hs.size, h.ham, h.hbf, h.hbx⟩

/-- What a question answers. -/
def Answer (a m : Nat) (G : Nat → Bool → World → Prop) (bf bx x pb px pk ps : Nat) (st : Bool) (q : Bool) (r : Ending) (w' : World) : Prop :=
  ∃ (b st' : Bool), r = .returned (.bool b) ∧ Between a m G bf bx x pb px pk ps st' w' ∧ (st' = false → st = false ∧ b = q)

set_option maxHeartbeats 4000000 in
theorem search2_any {a m bf bx x pb px pk ps s i : Nat} {w0 w : World} {P : Nat → Prop} {L M : List En} {so : En → Bool} {G : Nat → Bool → World → Prop} {st : Bool} (hA : Asks a w0 P pb px pk ps L so G) (hB : Between a m G bf bx x pb px pk ps st w)
    (hn : NodeAt w0 P 0 x s M) (hM : ∀ e ∈ M, e ∈ L) {y : En} (hy : M[i]? = some y) :
    Calls Tryz.prog 89 #[.int .i64 i, .pointer (some ⟨bf, 0, none⟩), .pointer (some ⟨bx, 0, none⟩)] w fun r w' => Answer a m G bf bx x pb px pk ps st (so y) r w' := by
  have eg : ∀ args w, (callFunc 66 args).run Tryz.prog w = .ok (.enter 66 args) w := Go.Proofs.enters_of Tryz.func66 (by kernel_rfl) rfl
  obtain ⟨c0, c1, cm⟩ := And.intro hB.hf (And.intro hB.cx.1 hB.hm)
  have hbf := hB.hbf; have hbx := hB.hbx
  have hbfl : bf < w.heap.size := by omega
  have hbxl : bx < w.heap.size := by omega
  obtain ⟨e, h8, _, l, hb, hr, _⟩ := hn.keep (hA.kept hB.hst) (fun k h => Or.inr h)
  subst e
  have hi := (List.getElem?_eq_some_iff.1 hy).1
  obtain ⟨lb, lo, lc, lcs, lfr, rfl, hlbk, hlc⟩ := ReadE.where hr (by omega)
  obtain ⟨n0, n1, _, _⟩ := node_cells hb
  have hlb := lt_of_block hb
  have hlk := lt_of_block hlbk
  obtain ⟨hx0, hx1⟩ := ReadE.entry hr hy
  have hpp : (i : Int) < (M.length : Int) := by omega
  have HC := Lib.hid (fun (W : World) (hW : Between a m G bf bx x pb px pk ps st W) => hA.call hW.hst hW.ham hW.hm (hM y (List.mem_of_getElem? hy)))
  have HW := Lib.hid (hB.kept hA ((Same.refl (fun _ => False) w).drew))
  clear hr hb hlbk hB hA hn n1
  go_enter Tryz.func89, Tryz.ntmps89
  go_wp2_with fail
  go_region_with (first | (go_at_call 66; refine (HC.out _ HW.out).mono ?_; rintro r w1 ⟨b, st1, rfl, hG1, hb1, hs1⟩; have HN := Lib.hid (HW.out.next hG1 hs1); have HB1 := Lib.hid hb1; clear hG1 hb1 hs1))
  all_goals go_wp2_with fail
  all_goals go_ret
  all_goals exact ⟨_, _, rfl, HN.out, HB1.out⟩

set_option maxHeartbeats 4000000 in
theorem search1_any {a m bf bx x pb px pk ps i h : Nat} {w0 w : World} {P : Nat → Prop} {L M : List En} {so : En → Bool} {G : Nat → Bool → World → Prop} {st : Bool} (hA : Asks a w0 P pb px pk ps L so G) (hB : Between a m G bf bx x pb px pk ps st w)
    {ks : List Kid} {kv : Value} (hb0 : w0.heap[x]? = some (nodeObj (.slice none 0 0) kv M.length)) (hPx : P x) (hr0 : ReadC w0 109 kv (kidsV ks)) (hPk : ∀ k, kv.ownBlock = some k → P k ∧ k < w0.heap.size) (hk8 : ks.length ≤ 8) {c : Kid} (hc : ks[i + 1]? = some c) (hcn : NodeAt w0 P h c.b c.s c.L) (hc4 : 4 ≤ c.s) {y : En} (hy : c.L[0]? = some y) (hyL : y ∈ L) :
    Calls Tryz.prog 87 #[.int .i64 i, .pointer (some ⟨bf, 0, none⟩), .pointer (some ⟨bx, 0, none⟩)] w fun r w' => Answer a m G bf bx x pb px pk ps st (so y) r w' := by
  have eg : ∀ args w, (callFunc 66 args).run Tryz.prog w = .ok (.enter 66 args) w := Go.Proofs.enters_of Tryz.func66 (by kernel_rfl) rfl
  obtain ⟨c0, c1, cm⟩ := And.intro hB.hf (And.intro hB.cx.1 hB.hm)
  have hbf := hB.hbf; have hbx := hB.hbx
  have hbfl : bf < w.heap.size := by omega
  have hbxl : bx < w.heap.size := by omega
  have hkp := hA.kept hB.hst
  have hb := hkp.obj hb0 (fun h => h hPx)
  have hr := hr0.kept hkp (fun k hk h => h (hPk k hk).1)
  have hi := (List.getElem?_eq_some_iff.1 hc).1
  have hlV : (kidsV ks).length = ks.length := by simp
  obtain ⟨kb, ko, kc, kcs, kfr, rfl, hkb, hkc⟩ := hr.where (by omega)
  rw [hlV] at hr hb hkc
  obtain ⟨n0, n1, _, _⟩ := node_cells hb
  have hlb := lt_of_block hb
  have hlk := lt_of_block hkb
  have hx := hr.cell (j := i + 1) (x := .pointer (some ⟨c.b, 0, none⟩)) (by simp [hc])
  have hpp : (i : Int) + 1 < (ks.length : Int) := by omega
  have hp0 : (0 : Int) ≤ (i : Int) + 1 := by omega
  have htn : ((i : Int) + 1).toNat = i + 1 := by omega
  have hwr : IntKind.i64.wrap ((i : Int) + 1) = (i : Int) + 1 := by rw [IntKind.wrap_i64]; omega
  have HF := Lib.hid (first_any (w0 := w.drew) (hcn.keep (hkp.trans ((Same.refl (fun _ => False) w).drew) (fun _ _ h => h.elim)) (fun k h => Or.inr h)) (by omega) hy)
  have HC := Lib.hid (fun (W : World) (hW : Between a m G bf bx x pb px pk ps st W) => hA.call hW.hst hW.ham hW.hm hyL)
  have HW := Lib.hid (fun (W : World) (hs : Same (fun _ => False) w.drew W) => (hB.kept hA ((Same.refl (fun _ => False) w).drew)).kept hA hs)
  clear hr hb hkb hB hA hcn hkp hr0 hb0 hPk n0 hc hy
  go_enter Tryz.func87, Tryz.ntmps87
  go_wp2_with fail
  go_region_with (first
    | (go_at_call 88; refine HF.out.mono ?_; rintro r w1 ⟨rfl, hs1⟩; have HB2 := Lib.hid (HW.out w1 hs1); have d0 := HB2.out.hf; have dm := HB2.out.hm; have hbfl1 : bf < w1.heap.size := (by omega); clear hs1)
    | (go_at_call 66; refine (HC.out _ HB2.out).mono ?_; rintro r w2 ⟨b, st1, rfl, hG1, hb1, hs2⟩; have HN := Lib.hid (HB2.out.next hG1 hs2); have HB1 := Lib.hid hb1; clear hG1 hb1 hs2))
  all_goals go_wp2_with fail
  all_goals go_ret
  all_goals exact ⟨_, _, rfl, HN.out, HB1.out⟩

end Go.Proofs.YtgfmemggfbgjeaaGreatDoor
