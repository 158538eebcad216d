/-
  seqidx: Move, by what the index is made of. Conditions: few elements.
-/
import Derived.Test.YtelgbigpfiohfaaSeqKnown
namespace Go.Proofs.Ytelgbigpfiohfaa
open Go.RowKit Go.Extern.Stop Go.Stop Go.Extern Go.Lib Go.Maps
set_option maxRecDepth 1000000

/-- The index, made of blocks of P, with a budget. -/
def IxP (T : TypeId) (w : World) (P : Nat → Prop) (x : Nat) (L : List Int) (k : Nat) : Prop := ∃ c N, IxAt T w P x L c N ∧ 0 ≤ c ∧ c ≤ 1000 * k ∧ N ≤ k

theorem IxP.keep {T : TypeId} {w w' : World} {P : Nat → Prop} {x k : Nat} {L : List Int} (h : IxP T w P x L k) (hs : Same (fun _ => False) w w') : IxP T w' P x L k := by
  obtain ⟨c, N, hi, h2⟩ := h
  exact ⟨c, N, hi.keep hs (fun _ h => h.elim), h2⟩

theorem IxP.ok {T : TypeId} {w : World} {P : Nat → Prop} {x k : Nat} {L : List Int} (h : IxP T w P x L k) : L.Nodup ∧ ∀ y ∈ L, I64 y := by
  obtain ⟨c, N, ⟨t, mb, _, _, _, _, _, _, h7, h8⟩, _⟩ := h
  exact ⟨h7, h8⟩

theorem ixp_got {T : TypeId} {w w' : World} {P : Nat → Prop} {x k most : Nat} {L' : List Int} {c : Int} {N : Nat} (h0 : 0 ≤ c) (h1 : c ≤ 1000 * k) (h2 : N ≤ k) (hm : most ≤ 1000) (h : IxGot T w w' P x L' c N most) : IxP T w' P x L' (k + 1) ∧ Same P w w' := by
  obtain ⟨⟨d, hd, hi⟩, hs⟩ := h
  exact ⟨⟨c + d, N + 1, hi, by omega, by omega, by omega⟩, hs⟩

/-- Behind base B, but not block g. -/
def BesideG (B g q : Nat) : Prop := B ≤ q ∧ q ≠ g

theorem IxP.wide {T : TypeId} {w : World} {B g x k : Nat} {L : List Int} (h : IxP T w (BesideG B g) x L k) : IxB T w B x L k := by
  obtain ⟨c, N, hi, h2⟩ := h
  exact ⟨c, N, hi.mono (fun q _ hB => hB.1), h2⟩

/-- All: a fresh row, no part of the index. -/
theorem seqB_all_at {w : World} {B x k n : Nat} {L : List Int} (h : IxB 67 w B x L k) (hL : L.length ≤ 80000) (hn : L.length = n) (h0 : 0 < n) :
    Calls Try.prog 17 #[.pointer (some ⟨x, 0, none⟩)] w fun e w' => ∃ g cap, e = .returned (.slice (some ⟨g, 0, none⟩) n cap) ∧ ReadC w' 2 (.slice (some ⟨g, 0, none⟩) n cap) (intsV L) ∧ IxP 67 w' (BesideG B g) x L k ∧ (∀ q, w'.heap.size ≤ q → BesideG B g q) ∧ Same (fun _ => False) w w' ∧ g < w'.heap.size := by
  subst hn
  have hB := h.base
  refine (seqB_all h hL).mono ?_
  rintro e w' ⟨v, rfl, ho, hs⟩
  have hr := ownsRow_read ho
  obtain ⟨g, off, cap, cs, fr, rfl, hb, hc⟩ := hr.where (by simpa using h0)
  obtain ⟨g', cap', e', -⟩ : ∃ g' cap', (Value.slice (some ⟨g, off, none⟩) (intsV L).length cap) = .slice (some ⟨g', 0, none⟩) L.length cap' ∧ True := by
    rcases ho.2 with ⟨e, _⟩ | ⟨g', cap', cur, e, _⟩
    · cases e
    · exact ⟨g', cap', e, trivial⟩
  simp only [Value.slice.injEq, Option.some.injEq, Addr.mk.injEq, and_true] at e'
  obtain ⟨⟨rfl, rfl⟩, el, rfl⟩ := e'
  rw [el] at hr ⊢
  have hlt := ho.lt g rfl
  have hup := hs.size
  obtain ⟨c, N, hi, h2⟩ := h
  exact ⟨g, cap, rfl, hr, ⟨c, N, (hi.mono (fun q hq hB => ⟨hB, by omega⟩)).keep hs (fun _ h => h.elim), h2⟩, fun q hq => ⟨by omega, by omega⟩, hs, hlt.2⟩

set_option maxHeartbeats 8000000 in
theorem seqP_move {w : World} {P : Nat → Prop} {x k : Nat} {L : List Int} {y z p : Int} (h : IxP 67 w P x L k) (hP : ∀ q, w.heap.size ≤ q → P q) (hL : L.length ≤ 80000) (hk : k ≤ 100000) (hy : y ∈ L) (hy0 : y ≠ 0) (hz : z = 0 ∨ z ∈ L) (hz64 : I64 z) (hp : p = L.idxOf y) :
    Calls Try.prog 18 #[.pointer (some ⟨x, 0, none⟩), .int .i64 y, .int .i64 z] w fun e w' => e = .returned (.tuple #[.int .i64 p, .int .i64 0]) ∧ IxP 67 w' P x (movedB L y z) (k + 2) ∧ Same (P) w w' := by
  subst hp
  have hnd := h.ok.1
  have h64 := h.ok.2 y hy
  have hH := h
  obtain ⟨c, N, hx, h0, h1, h2⟩ := h
  have HPL := Lib.hid (seq_place hx (by omega) hy h64)
  have HTG := Lib.hid (fun (w' : World) (hs : Same (fun _ => False) w w') => seq_target (z := z) (hx.keep hs (fun _ h => h.elim)) hz hz64)
  by_cases hyz : y = z
  · subst hyz
    have HH := Lib.hid hH
    have he : movedB L y y = L := by simp [movedB]
    rw [he]
    clear hx hy hz hnd he hH
    go_enter Try.func18, Try.ntmps18
    go_wp2_with fail
    refine HPL.out.mono ?_
    rintro e w1 ⟨rfl, hs⟩
    have HT := Lib.hid (HTG.out w1 hs); have HS := Lib.hid hs
    clear hs
    go_wp2_with (first | (go_at_call 39; refine HT.out.mono ?_; rintro e w2 ⟨rfl, hs2⟩; have HS2 := Lib.hid (HS.out.trans hs2 (fun _ _ h => h)); clear hs2))
    go_ret2
    obtain ⟨c, N, a1, a2, a3, a4⟩ := HH.out.keep HS2.out
    exact ⟨rfl, ⟨c, N, a1, a2, by omega, by omega⟩, HS2.out.weaken (fun _ _ h => h.elim)⟩
  · rw [movedB_eq hyz]
    have hi : L.idxOf y < L.length := List.idxOf_lt_length_iff.2 hy
    have hol := out_length hi
    have hom := fun z => out_mem hnd hy z
    have hon := erase_nodup (L.idxOf y) hnd
    have hmost := most_small hL
    have hzo : z = 0 ∨ z ∈ out L (L.idxOf y) := by
      rcases hz with h | h
      · exact Or.inl h
      · exact Or.inr ((hom z).2 ⟨fun e => hyz e.symm, h⟩)
    have HSTEP := Lib.hid (fun (w' : World) (hs : Same (fun _ => False) w w') => hx.keep hs (fun _ h => h.elim))
    have HAH := Lib.hid (fun (w' : World) (h : IxP 67 w' P x (out L (L.idxOf y)) (k + 1)) => by
      obtain ⟨c, N, hx, _⟩ := h
      exact seq_ahead (z := z) hx (by rw [hol]; omega) hzo hz64)
    have HPU := Lib.hid (fun (w' : World) (h : IxP 67 w' P x (out L (L.idxOf y)) (k + 1)) (hup : w.heap.size ≤ w'.heap.size) => by
      obtain ⟨c, N, hx, g0, g1, g2⟩ := h
      have hcall := (seq_puts (i := aheadOf (out L (L.idxOf y)) z) hx (fun q hq => hP q (by omega)) (by rw [hol]; omega) ⟨g0, by omega⟩ (by omega) (aheadOf_le hzo) (out_not hnd hy) h64).mono (R' := fun e w2 => e = .returned (.tuple #[]) ∧ IxP 67 w2 P x (ins (out L (L.idxOf y)) (aheadOf (out L (L.idxOf y)) z) y) (k + 1 + 1) ∧ Same (P) w' w2) (fun e w2 hh => ⟨hh.1, ixp_got g0 g1 g2 (by have := most_mono (show (out L (L.idxOf y)).length ≤ L.length by rw [hol]; omega); omega) hh.2⟩)
      exact hcall)
    have hyz' : ¬ (y = z) := hyz
    have HK := Lib.hid (key_of h64); have HOM := Lib.hid hom; have HON := Lib.hid hon
    have HM64 := Lib.hid (show ∀ q ∈ out L (L.idxOf y), I64 q from fun q hq => hH.ok.2 q ((hom q).1 hq).2)
    have HTE := Lib.hid (fun (w' : World) (P : Nat → Prop) (t : Nat) (ht : TreeIs w' P t L c) (hP : ∀ q, w'.heap.size ≤ q → P q) => tree_erase (i := L.idxOf y) ht hP ⟨h0, by omega⟩ (by omega) hi)
    generalize L[L.idxOf y] = yy at *
    have HOUT : Go.RowKit.Hid (L.take (L.idxOf y) ++ L.drop (L.idxOf y + 1) = out L (L.idxOf y)) := Lib.hid rfl
    clear hx hy hz hnd hH hol hom hon hzo
    go_enter Try.func18, Try.ntmps18
    go_wp2_with fail
    refine HPL.out.mono ?_
    rintro e w1 ⟨rfl, hs⟩
    have HT := Lib.hid (HTG.out w1 hs); have HS := Lib.hid hs
    clear hs
    go_upto_region 4 with (first | (go_at_call 39; refine HT.out.mono ?_; rintro e w2 ⟨rfl, hs2⟩; have HS2 := Lib.hid (HS.out.trans hs2 (fun _ _ h => h)); clear hs2))
    obtain ⟨t, mb, hxP, hm, hb, hne, ⟨D, hown, hhas⟩, ht, _⟩ := HSTEP.out w2 HS2.out
    obtain ⟨x0, x1, hxl⟩ := ix_cells hb
    have hpt := ht.1
    have HE := Lib.hid (HTE.out w2 _ t ht (fun q hq => ⟨hP q (by have := HS2.out.size; omega), by omega, by have := hown.lt; omega⟩))
    have HO := Lib.hid hown; have HHAS := Lib.hid hhas; have HB := Lib.hid hb
    clear hb hown hhas ht
    go_wp2_with fail
    refine HE.out.mono ?_
    rintro e w3 ⟨rfl, ⟨d, hh, hlow, hd, ht3⟩, hs3⟩
    rw [HOUT.out] at ht3
    have y1 : w3.cell? ⟨x, 1, none⟩ = some (.map (some mb)) := (World.cell?_of_block (a := ⟨x, 1, none⟩) (hs3.block x hxl (fun e => hpt.2.1 e.symm))).trans x1
    have hxl3 : x < w3.heap.size := by have := hs3.size; omega
    have HO1 := Lib.hid (own_keep HO.out hs3 (fun e => hpt.2.2 e.symm))
    have HT3 := Lib.hid ht3; have HS3 := Lib.hid hs3; have HD := Lib.hid (low_most hlow hd)
    clear ht3 hs3 hd hlow
    go_wp2_with (first | (at_delete; refine wpList_delete_own _ rfl _ _ 60 2 rfl 63 key_law set_under (unitElem (H := Unit)) mb N D rfl HO1.out _ _ rfl HK.out ?_))
    intro w4 hown4 hturn4
    have hgrow4 := hturn4.grown
    have hs4 : Same (fun q => q = mb) w3 w4 := ⟨hgrow4.os, hgrow4.tape, hgrow4.output, hgrow4.size, fun q hq hn => hgrow4.block q hq (fun e => hn (by cases e; rfl))⟩
    have hfin := ix_turned (T := 67) hxP hm HB.out hne HO.out.lt hpt HS3.out HD.out HT3.out hs4 (hown4.mono (Nat.le_succ N)) (fun q => by rw [has_del HHAS.out q, HOM.out q]) HON.out HM64.out
    obtain ⟨hb4, hs24⟩ := ixp_got (k := k) h0 h1 h2 (by omega) hfin
    have HA4 := Lib.hid (HAH.out w4 hb4); have HB4 := Lib.hid hb4
    have HS4 := Lib.hid ((HS2.out.weaken (F' := P) (fun _ _ h => h.elim)).trans hs24 (fun _ _ h => h))
    clear hown4 hturn4 hgrow4 hs4 hfin hb4 hs24
    go_wp2_with fail
    refine HA4.out.mono ?_
    rintro e w5 ⟨rfl, hs5⟩
    have HP5 := Lib.hid (HPU.out w5 (HB4.out.keep hs5) (by have h1 := HS4.out.size; have h2 := hs5.size; omega)); have HS5 := Lib.hid (HS4.out.trans hs5 (fun _ _ h => h.elim))
    clear hs5
    go_wp2_with fail
    refine HP5.out.mono ?_
    rintro e w6 ⟨rfl, hb6, hs6⟩
    have HB6 := Lib.hid hb6; have HS6 := Lib.hid (HS5.out.trans hs6 (fun _ _ h => h))
    clear hb6 hs6
    go_wp2_with fail
    go_ret2
    exact ⟨rfl, HB6.out, HS6.out⟩

end Go.Proofs.Ytelgbigpfiohfaa
