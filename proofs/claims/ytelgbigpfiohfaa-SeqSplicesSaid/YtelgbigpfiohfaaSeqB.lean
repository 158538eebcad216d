/-
  seqidx: InsertAt, Add, Move, with a budget. Conditions: few elements.
-/
import Derived.Test.YtelgbigpfiohfaaSeqA
namespace Go.Proofs.Ytelgbigpfiohfaa
open Go.RowKit Go.Extern.Stop Go.Stop Go.Extern Go.Lib Go.Maps
set_option maxRecDepth 1000000

theorem seqB_insert {w : World} {B x k u : Nat} {L : List Int} {i y : Int} (h : IxB 67 w B x L k) (hi : i = u) (hu : u ≤ L.length) (hL : L.length ≤ 80000) (hk : k ≤ 100000) (hy : y ∉ L) (hy64 : I64 y) :
    Calls Try.prog 36 #[.pointer (some ⟨x, 0, none⟩), .int .i64 i, .int .i64 y] w fun e w' => e = .returned (.int .i64 0) ∧ IxB 67 w' B x (ins L u y) (k + 1) ∧ Same (fun q => B ≤ q) w w' := by
  have hB := h.base
  obtain ⟨c, N, hx, h0, h1, h2⟩ := h
  subst hi
  have HH := Lib.hid (seq_has (q := false) hx hy64 (by simp [hy]))
  have HLEN := Lib.hid (fun (w' : World) (hs : Same (fun _ => False) w w') => seq_len (hx.keep hs (fun _ h => h.elim)))
  have HPU := Lib.hid (fun (w' : World) (hs : Same (fun _ => False) w w') => seq_puts (i := u) (hx.keep hs (fun _ h => h.elim)) (fun q hq => by show B ≤ q; have := hs.size; omega) hL ⟨h0, by omega⟩ (by omega) hu hy hy64)
  have hmost := most_small hL
  have hul : ¬ ((L.length : Int) < (u : Int)) := by omega
  have hui : (u : Int) ≤ (L.length : Int) := by omega
  clear hx hy
  go_enter Try.func36, Try.ntmps36
  go_wp2_with fail
  refine HH.out.mono ?_
  rintro e w1 ⟨rfl, hs⟩
  have HL1 := Lib.hid (HLEN.out w1 hs); have HP1 := Lib.hid (HPU.out w1 hs); have HS := Lib.hid hs
  clear hs
  go_wp2_with (first | (go_at_call 37; refine HL1.out.mono ?_; rintro e w2 ⟨rfl, rfl⟩))
  refine HP1.out.mono ?_
  rintro e w2 ⟨rfl, hg⟩
  obtain ⟨hb, hs2⟩ := ixb_got (k := k) h0 h1 h2 (by omega) hg
  have HB := Lib.hid hb; have HS2 := Lib.hid ((HS.out.weaken (fun _ _ h => h.elim)).trans hs2 (fun _ _ h => h))
  clear hg hb hs2
  go_wp2_with fail
  go_ret
  exact ⟨rfl, HB.out, HS2.out⟩

theorem seqB_there {w : World} {B x k : Nat} {L : List Int} {i y : Int} (h : IxB 67 w B x L k) (hy : y ∈ L) :
    Calls Try.prog 36 #[.pointer (some ⟨x, 0, none⟩), .int .i64 i, .int .i64 y] w fun e w' => e = .returned (.int .i64 72) ∧ Same (fun _ => False) w w' := by
  have h64 := h.ok.2 y hy
  obtain ⟨c, N, hx, _⟩ := h
  have HH := Lib.hid (seq_has (q := true) hx h64 (by simp [hy]))
  clear hx hy h64
  go_enter Try.func36, Try.ntmps36
  go_wp2_with fail
  refine HH.out.mono ?_
  rintro e w1 ⟨rfl, hs⟩
  have HS := Lib.hid hs
  clear hs
  go_wp2_with fail
  go_ret
  exact ⟨rfl, HS.out⟩

theorem seqB_add {w : World} {B x k : Nat} {L : List Int} {y : Int} (h : IxB 67 w B x L k) (hL : L.length ≤ 80000) (hk : k ≤ 100000) (hy : y ∉ L) (hy64 : I64 y) :
    Calls Try.prog 16 #[.pointer (some ⟨x, 0, none⟩), .int .i64 y] w fun e w' => e = .returned (.int .i64 0) ∧ IxB 67 w' B x (L ++ [y]) (k + 1) ∧ Same (fun q => B ≤ q) w w' := by
  have HI := Lib.hid (seqB_insert (i := (L.length : Int)) (u := L.length) h rfl (Nat.le_refl _) hL hk hy hy64)
  have he : ins L L.length y = L ++ [y] := by simp [ins]
  rw [he] at HI
  obtain ⟨c, N, hx, _⟩ := h
  have HL := Lib.hid (seq_len hx)
  clear hx hy he
  go_enter Try.func16, Try.ntmps16
  go_wp2_with fail
  refine HL.out.mono ?_
  rintro e w1 ⟨rfl, rfl⟩
  go_wp2_with fail
  refine HI.out.mono ?_
  rintro e w2 ⟨rfl, hb, hs⟩
  have HB := Lib.hid hb; have HS := Lib.hid hs
  clear hb hs
  go_wp2_with fail
  go_ret
  exact ⟨rfl, HB.out, HS.out⟩

theorem seqB_add_there {w : World} {B x k : Nat} {L : List Int} {y : Int} (h : IxB 67 w B x L k) (hy : y ∈ L) :
    Calls Try.prog 16 #[.pointer (some ⟨x, 0, none⟩), .int .i64 y] w fun e w' => e = .returned (.int .i64 72) ∧ Same (fun _ => False) w w' := by
  have HI := Lib.hid (seqB_there (i := (L.length : Int)) h hy)
  obtain ⟨c, N, hx, _⟩ := h
  have HL := Lib.hid (seq_len hx)
  clear hx hy
  go_enter Try.func16, Try.ntmps16
  go_wp2_with fail
  refine HL.out.mono ?_
  rintro e w1 ⟨rfl, rfl⟩
  go_wp2_with fail
  refine HI.out.mono ?_
  rintro e w2 ⟨rfl, hs⟩
  have HS := Lib.hid hs
  clear hs
  go_wp2_with fail
  go_ret
  exact ⟨rfl, HS.out⟩

/-- A row is moved ahead of another one. -/
def movedB (L : List Int) (y z : Int) : List Int := if y = z then L else ins (out L (L.idxOf y)) (aheadOf (out L (L.idxOf y)) z) y

theorem aheadOf_le {L : List Int} {z : Int} (hz : z = 0 ∨ z ∈ L) : aheadOf L z ≤ L.length := by
  unfold aheadOf
  split
  · exact Nat.le_refl _
  · have := List.idxOf_lt_length_iff.2 (hz.resolve_left (by assumption))
    omega

theorem movedB_eq {L : List Int} {y z : Int} (hyz : y ≠ z) : movedB L y z = ins (out L (L.idxOf y)) (aheadOf (out L (L.idxOf y)) z) y := by
  simp [movedB, hyz]

theorem out_mem {L : List Int} {y : Int} (hn : L.Nodup) (hy : y ∈ L) (z : Int) : z ∈ out L (L.idxOf y) ↔ z ≠ y ∧ z ∈ L := by
  have hi : L.idxOf y < L.length := List.idxOf_lt_length_iff.2 hy
  have h := erase_mem hi hn z
  rwa [List.getElem_idxOf hi] at h

set_option maxHeartbeats 8000000 in
theorem seqB_move {w : World} {B x k : Nat} {L : List Int} {y z p : Int} (h : IxB 67 w B x L k) (hL : L.length ≤ 80000) (hk : k ≤ 100000) (hy : y ∈ L) (hy0 : y ≠ 0) (hz : z = 0 ∨ z ∈ L) (hz64 : I64 z) (hp : p = L.idxOf y) :
    Calls Try.prog 18 #[.pointer (some ⟨x, 0, none⟩), .int .i64 y, .int .i64 z] w fun e w' => e = .returned (.tuple #[.int .i64 p, .int .i64 0]) ∧ IxB 67 w' B x (movedB L y z) (k + 2) ∧ Same (fun q => B ≤ q) w w' := by
  subst hp
  have hB := h.base
  have hnd := h.ok.1
  have h64 := h.ok.2 y hy
  have hH := h
  obtain ⟨c, N, hx, h0, h1, h2⟩ := h
  have HPL := Lib.hid (seq_place hx (by omega) hy h64)
  have HTG := Lib.hid (fun (w' : World) (hs : Same (fun _ => False) w w') => seq_target (z := z) (hx.keep hs (fun _ h => h.elim)) hz hz64)
  by_cases hyz : y = z
  · subst hyz
    have HH := Lib.hid hH
    have he : movedB L y y = L := by simp [movedB]
    rw [he]
    clear hx hy hz hnd he hH
    go_enter Try.func18, Try.ntmps18
    go_wp2_with fail
    refine HPL.out.mono ?_
    rintro e w1 ⟨rfl, hs⟩
    have HT := Lib.hid (HTG.out w1 hs); have HS := Lib.hid hs
    clear hs
    go_wp2_with (first | (go_at_call 39; refine HT.out.mono ?_; rintro e w2 ⟨rfl, hs2⟩; have HS2 := Lib.hid (HS.out.trans hs2 (fun _ _ h => h)); clear hs2))
    go_ret2
    obtain ⟨c, N, a1, a2, a3, a4⟩ := HH.out.keep HS2.out
    exact ⟨rfl, ⟨c, N, a1, a2, by omega, by omega⟩, HS2.out.weaken (fun _ _ h => h.elim)⟩
  · rw [movedB_eq hyz]
    have hi : L.idxOf y < L.length := List.idxOf_lt_length_iff.2 hy
    have hol := out_length hi
    have hom := fun z => out_mem hnd hy z
    have hon := erase_nodup (L.idxOf y) hnd
    have hmost := most_small hL
    have hzo : z = 0 ∨ z ∈ out L (L.idxOf y) := by
      rcases hz with h | h
      · exact Or.inl h
      · exact Or.inr ((hom z).2 ⟨fun e => hyz e.symm, h⟩)
    have HSTEP := Lib.hid (fun (w' : World) (hs : Same (fun _ => False) w w') => hx.keep hs (fun _ h => h.elim))
    have HAH := Lib.hid (fun (w' : World) (h : IxB 67 w' B x (out L (L.idxOf y)) (k + 1)) => by
      obtain ⟨c, N, hx, _⟩ := h
      exact seq_ahead (z := z) hx (by rw [hol]; omega) hzo hz64)
    have HPU := Lib.hid (fun (w' : World) (h : IxB 67 w' B x (out L (L.idxOf y)) (k + 1)) => by
      have hb' := h.base
      obtain ⟨c, N, hx, g0, g1, g2⟩ := h
      have hcall := (seq_puts (i := aheadOf (out L (L.idxOf y)) z) hx (fun q hq => by show B ≤ q; omega) (by rw [hol]; omega) ⟨g0, by omega⟩ (by omega) (aheadOf_le hzo) (out_not hnd hy) h64).mono (R' := fun e w2 => e = .returned (.tuple #[]) ∧ IxB 67 w2 B x (ins (out L (L.idxOf y)) (aheadOf (out L (L.idxOf y)) z) y) (k + 1 + 1) ∧ Same (fun q => B ≤ q) w' w2) (fun e w2 hh => ⟨hh.1, ixb_got g0 g1 g2 (by have := most_mono (show (out L (L.idxOf y)).length ≤ L.length by rw [hol]; omega); omega) hh.2⟩)
      exact hcall)
    have hyz' : ¬ (y = z) := hyz
    have HK := Lib.hid (key_of h64); have HOM := Lib.hid hom; have HON := Lib.hid hon
    have HM64 := Lib.hid (show ∀ q ∈ out L (L.idxOf y), I64 q from fun q hq => hH.ok.2 q ((hom q).1 hq).2)
    have HTE := Lib.hid (fun (w' : World) (P : Nat → Prop) (t : Nat) (ht : TreeIs w' P t L c) (hP : ∀ q, w'.heap.size ≤ q → P q) => tree_erase (i := L.idxOf y) ht hP ⟨h0, by omega⟩ (by omega) hi)
    generalize L[L.idxOf y] = yy at *
    have HOUT : Go.RowKit.Hid (L.take (L.idxOf y) ++ L.drop (L.idxOf y + 1) = out L (L.idxOf y)) := Lib.hid rfl
    clear hx hy hz hnd hH hol hom hon hzo
    go_enter Try.func18, Try.ntmps18
    go_wp2_with fail
    refine HPL.out.mono ?_
    rintro e w1 ⟨rfl, hs⟩
    have HT := Lib.hid (HTG.out w1 hs); have HS := Lib.hid hs
    clear hs
    go_upto_region 4 with (first | (go_at_call 39; refine HT.out.mono ?_; rintro e w2 ⟨rfl, hs2⟩; have HS2 := Lib.hid (HS.out.trans hs2 (fun _ _ h => h)); clear hs2))
    obtain ⟨t, mb, hxP, hm, hb, hne, ⟨D, hown, hhas⟩, ht, _⟩ := HSTEP.out w2 HS2.out
    obtain ⟨x0, x1, hxl⟩ := ix_cells hb
    have hpt := ht.1
    have HE := Lib.hid (HTE.out w2 _ t ht (fun q hq => ⟨by show B ≤ q; have := HS2.out.size; omega, by omega, by have := hown.lt; omega⟩))
    have HO := Lib.hid hown; have HHAS := Lib.hid hhas; have HB := Lib.hid hb
    clear hb hown hhas ht
    go_wp2_with fail
    refine HE.out.mono ?_
    rintro e w3 ⟨rfl, ⟨d, hh, hlow, hd, ht3⟩, hs3⟩
    rw [HOUT.out] at ht3
    have y1 : w3.cell? ⟨x, 1, none⟩ = some (.map (some mb)) := (World.cell?_of_block (a := ⟨x, 1, none⟩) (hs3.block x hxl (fun e => hpt.2.1 e.symm))).trans x1
    have hxl3 : x < w3.heap.size := by have := hs3.size; omega
    have HO1 := Lib.hid (own_keep HO.out hs3 (fun e => hpt.2.2 e.symm))
    have HT3 := Lib.hid ht3; have HS3 := Lib.hid hs3; have HD := Lib.hid (low_most hlow hd)
    clear ht3 hs3 hd hlow
    go_wp2_with (first | (at_delete; refine wpList_delete_own _ rfl _ _ 60 2 rfl 63 key_law set_under (unitElem (H := Unit)) mb N D rfl HO1.out _ _ rfl HK.out ?_))
    intro w4 hown4 hturn4
    have hgrow4 := hturn4.grown
    have hs4 : Same (fun q => q = mb) w3 w4 := ⟨hgrow4.os, hgrow4.tape, hgrow4.output, hgrow4.size, fun q hq hn => hgrow4.block q hq (fun e => hn (by cases e; rfl))⟩
    have hfin := ix_turned (T := 67) hxP hm HB.out hne HO.out.lt hpt HS3.out HD.out HT3.out hs4 (hown4.mono (Nat.le_succ N)) (fun q => by rw [has_del HHAS.out q, HOM.out q]) HON.out HM64.out
    obtain ⟨hb4, hs24⟩ := ixb_got (k := k) h0 h1 h2 (by omega) hfin
    have HA4 := Lib.hid (HAH.out w4 hb4); have HB4 := Lib.hid hb4
    have HS4 := Lib.hid ((HS2.out.weaken (F' := fun q => B ≤ q) (fun _ _ h => h.elim)).trans hs24 (fun _ _ h => h))
    clear hown4 hturn4 hgrow4 hs4 hfin hb4 hs24
    go_wp2_with fail
    refine HA4.out.mono ?_
    rintro e w5 ⟨rfl, hs5⟩
    have HP5 := Lib.hid (HPU.out w5 (HB4.out.keep hs5)); have HS5 := Lib.hid (HS4.out.trans hs5 (fun _ _ h => h.elim))
    clear hs5
    go_wp2_with fail
    refine HP5.out.mono ?_
    rintro e w6 ⟨rfl, hb6, hs6⟩
    have HB6 := Lib.hid hb6; have HS6 := Lib.hid (HS5.out.trans hs6 (fun _ _ h => h))
    clear hb6 hs6
    go_wp2_with fail
    go_ret2
    exact ⟨rfl, HB6.out, HS6.out⟩

theorem seqB_new (w : World) : Calls Try.prog 15 #[] w fun e w' => ∃ x, e = .returned (.pointer (some ⟨x, 0, none⟩)) ∧ IxB 67 w' w.heap.size x [] 0 ∧ Same (fun _ => False) w w' := by
  refine (seq_new w).mono ?_
  rintro e w' ⟨x, rfl, h, hs⟩
  exact ⟨x, rfl, ⟨0, 0, h, by omega, by omega, by omega⟩, hs⟩

theorem seqB_all {w : World} {B x k : Nat} {L : List Int} (h : IxB 67 w B x L k) (hL : L.length ≤ 80000) :
    Calls Try.prog 17 #[.pointer (some ⟨x, 0, none⟩)] w fun e w' => ∃ v, e = .returned v ∧ w'.ownsRow w.heap.size 2 1 v L.length (intsV L) ∧ Same (fun _ => False) w w' := by
  obtain ⟨c, N, hx, _⟩ := h
  exact seq_all hx (by omega)

theorem seqB_place {w : World} {B x k : Nat} {L : List Int} {y p : Int} (h : IxB 67 w B x L k) (hL : L.length ≤ 80000) (hy : y ∈ L) (hp : p = L.idxOf y) :
    Calls Try.prog 19 #[.pointer (some ⟨x, 0, none⟩), .int .i64 y] w fun e w' => e = .returned (.tuple #[.int .i64 p, .bool true]) ∧ Same (fun _ => False) w w' := by
  have h64 := h.ok.2 y hy
  obtain ⟨c, N, hx, _⟩ := h
  subst hp
  exact seq_place hx (by omega) hy h64

end Go.Proofs.Ytelgbigpfiohfaa
