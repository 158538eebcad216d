/-
  slices.Index of numbers; posidx: Len, All, Place, At. Conditions: few elements.
-/
import Derived.Test.YtelgbigpfiohfaaIx
namespace Go.Proofs.Ytelgbigpfiohfaa
open Go.RowKit Go.Extern.Stop Go.Stop Go.Extern Go.Lib Go.Maps
set_option maxRecDepth 1000000

theorem idxOf_first {L : List Int} {y : Int} : ∀ {j : Nat}, L[j]? = some y → L.idxOf y ≤ j := by
  induction L with
  | nil => intro j h; cases h
  | cons a L ih =>
    intro j h
    rw [List.idxOf_cons]
    by_cases e : a = y
    · subst e; simp
    · have e' : (a == y) = false := by simpa using e
      rw [e', cond_false]
      cases j with
      | zero => cases h; exact absurd rfl e
      | succ j => have := ih (j := j) (by simpa using h); omega

theorem idxOf_get {L : List Int} {y : Int} (hy : y ∈ L) : L[L.idxOf y]? = some y := by
  rw [List.getElem?_eq_getElem (List.idxOf_lt_length_iff.2 hy), List.getElem_idxOf]

set_option maxHeartbeats 4000000 in
theorem index_any {w : World} {v : Value} {L : List Int} {y : Int} (h : ReadC w 2 v (intsV L)) (hL : L.length ≤ 100000) (hy : y ∈ L) :
    Calls Try.prog 34 #[v, .int .i64 y] w fun e w' => e = .returned (.int .i64 (L.idxOf y)) ∧ w = w' := by
  have h0 : 0 < L.length := List.length_pos_of_mem hy
  obtain ⟨b, o, c, cs, fr, rfl, hb, hc⟩ := h.where (by simpa using h0)
  have hlV : (intsV L).length = L.length := by simp
  rw [hlV] at h hc ⊢
  have hlb := lt_of_block hb
  have HR := Lib.hid h; have HY := Lib.hid hy
  clear h hb hy hlV
  go_enter Try.func34, Try.ntmps34
  go_wp2_with fail
  go_loopg [8] L.length (fun rr vi wr => ∃ (j : Nat), j + rr = L.length ∧ vi = .int .i64 j ∧ j ≤ L.idxOf y ∧ w = wr)
  case atStart => exact ⟨0, by omega, rfl, Nat.zero_le _, rfl⟩
  case round =>
    obtain ⟨j, hj, rfl, hle, rfl⟩ := hrel
    have hlast : L.idxOf y < L.length := List.idxOf_lt_length_iff.2 HY.out
    have hjl : j < L.length := by omega
    have hl' : (j : Int) < (L.length : Int) := by omega
    have hx := HR.out.cell (j := j) (x := .int .i64 L[j]) (by simp [hjl])
    have hg := idxOf_get HY.out
    have hf := fun h => idxOf_first (L := L) (y := y) (j := j) h
    have HG := Lib.hid hg; have HF := Lib.hid hf; have HLE := Lib.hid hle; have HLA := Lib.hid hlast
    have hLj : L[j]? = some L[j] := List.getElem?_eq_getElem hjl
    have HLJ := Lib.hid hLj
    clear hg hf hle hlast hLj
    generalize hz : L[j] = z at *
    clear hz
    by_cases he : y = z
    · have hj2 : j = L.idxOf y := by
        have h1 := HF.out (by rw [HLJ.out, he])
        have h2 := HLE.out
        omega
      subst he
      have HJ := Lib.hid hj2
      clear hj2
      go_wp2_with fail
      go_ret
      exact ⟨by rw [← HJ.out]; rfl, rfl⟩
    · have hj2 : j + 1 ≤ L.idxOf y := by
        have h1 := HLE.out
        rcases Nat.lt_or_ge j (L.idxOf y) with h | h
        · omega
        · have h2 : j = L.idxOf y := by omega
          have h3 := HG.out
          rw [← h2, HLJ.out] at h3
          exact absurd (Option.some.inj h3).symm he
      have hjw : (j : Int) < 100001 := by omega
      have HJ := Lib.hid hj2
      clear hj2
      go_wp2_with fail
      go_roundg (gk - 1)
      case measure => omega
      case rel => exact ⟨j + 1, by omega, by go_num, HJ.out, rfl⟩

theorem pos_len {w : World} {P : Nat → Prop} {x N : Nat} {L : List Int} {c : Int} (h : IxAt 62 w P x L c N) :
    Calls Try.prog 26 #[.pointer (some ⟨x, 0, none⟩)] w fun e w' => e = .returned (.int .i64 L.length) ∧ w = w' := by
  obtain ⟨t, mb, _, _, hb, _, _, ht, _⟩ := h
  obtain ⟨x0, x1, hx⟩ := ix_cells hb
  have HL := Lib.hid (tree_len ht)
  clear hb ht x1
  go_enter Try.func26, Try.ntmps26
  go_wp2_with fail
  refine HL.out.mono ?_
  rintro e w0 ⟨rfl, rfl⟩
  go_wp2_with fail
  go_ret
  exact ⟨rfl, rfl⟩

/-- What All hands back. -/
def AllOut (w w' : World) (L : List Int) (e : Ending) : Prop := ∃ v, e = .returned v ∧ w'.ownsRow w.heap.size 2 1 v L.length (intsV L) ∧ Same (fun _ => False) w w'

set_option maxHeartbeats 4000000 in
theorem pos_all {w : World} {P : Nat → Prop} {x N : Nat} {L : List Int} {c : Int} (h : IxAt 62 w P x L c N) (hL : L.length ≤ 90000) :
    Calls Try.prog 28 #[.pointer (some ⟨x, 0, none⟩)] w fun e w' => AllOut w w' L e := by
  have h' : IxAt 62 w.drew P x L c N := h.keep ((Same.refl (fun _ => False) w).drew) (fun _ h => h.elim)
  have HLEN := Lib.hid (pos_len h')
  obtain ⟨t, mb, _, _, hb, _, _, ht, _⟩ := h
  obtain ⟨x0, x1, hx⟩ := ix_cells hb
  have HS := Lib.hid (tree_all (w := w.drew) (ht.keep ((Same.refl (fun _ => False) w).drew) (fun _ h => h.elim)) hL)
  clear h' hb ht x1
  go_enter Try.func28, Try.ntmps28
  go_wp2_with fail
  go_region_with (first
    | (go_at_call 26; with_reducible refine HLEN.out.mono ?_; rintro e w0 ⟨rfl, rfl⟩)
    | (go_at_call 38; with_reducible refine HS.out.mono ?_; rintro e w1 ⟨v, rfl, ho, hs⟩; have HO := Lib.hid ho; have HSS := Lib.hid hs; clear ho hs))
  all_goals go_wp2_with fail
  all_goals go_ret
  all_goals exact ⟨_, rfl, HO.out, ((Same.refl (fun _ => False) w).drew).trans HSS.out (fun _ _ h => h)⟩

set_option maxHeartbeats 4000000 in
theorem pos_place {w : World} {P : Nat → Prop} {x N : Nat} {L : List Int} {c y : Int} (h : IxAt 62 w P x L c N) (hL : L.length ≤ 90000) (hy : y ∈ L) :
    Calls Try.prog 12 #[.pointer (some ⟨x, 0, none⟩), .int .i64 y] w fun e w' => e = .returned (.tuple #[.int .i64 (L.idxOf y), .bool true]) ∧ Same (fun _ => False) w w' := by
  have hs0 : Same (fun _ => False) w (w.alloc (.cells #[] 63)) := (Same.refl _ w).alloc _
  have HALL := Lib.hid (pos_all (h.keep hs0 (fun _ h => h.elim)) hL)
  obtain ⟨t, mb, _, _, hb, _, ⟨D, hown, hhas⟩, ht, _, h64⟩ := h
  obtain ⟨x0, x1, hx⟩ := ix_cells hb
  have hq := (hhas y).2 hy
  have HO := Lib.hid hown; have HK := Lib.hid (key_of (h64 y hy)); have HS0 := Lib.hid hs0; have HY := Lib.hid hy
  clear hb ht x0 hown hhas hs0 h64 hy
  go_enter Try.func12, Try.ntmps12
  go_wp2_with (first | (at_lookup; refine wpList_lookup_own_unit _ rfl _ _ 60 rfl 2 63 key_law set_under (unit_zero _) mb N D rfl HO.out _ _ rfl HK.out ?_))
  refine HALL.out.mono ?_
  rintro e w1 ⟨v, rfl, ho, hs1⟩
  have HIX := Lib.hid (index_any (ownsRow_read ho) (by omega) HY.out)
  have HS1 := Lib.hid (HS0.out.trans hs1 (fun _ _ h => h))
  clear ho hs1
  go_wp2_with fail
  refine HIX.out.mono ?_
  rintro e w2 ⟨rfl, rfl⟩
  go_wp2_with fail
  go_ret2
  exact ⟨rfl, HS1.out⟩

set_option maxHeartbeats 4000000 in
theorem pos_place_no {w : World} {P : Nat → Prop} {x N : Nat} {L : List Int} {c y : Int} (h : IxAt 62 w P x L c N) (hy : y ∉ L) (hy64 : I64 y) :
    Calls Try.prog 12 #[.pointer (some ⟨x, 0, none⟩), .int .i64 y] w fun e w' => e = .returned (.tuple #[.int .i64 0, .bool false]) ∧ Same (fun _ => False) w w' := by
  obtain ⟨t, mb, _, _, hb, _, ⟨D, hown, hhas⟩, ht, _, h64⟩ := h
  obtain ⟨x0, x1, hx⟩ := ix_cells hb
  have hq : Maps.has D (.int .i64 y) = false := by rw [has_eq hhas]; simp [hy]
  have HO := Lib.hid hown; have HK := Lib.hid (key_of hy64)
  clear hb ht x0 hown hhas h64 hy
  go_enter Try.func12, Try.ntmps12
  go_wp2_with (first | (at_lookup; refine wpList_lookup_own_unit _ rfl _ _ 60 rfl 2 63 key_law set_under (unit_zero _) mb N D rfl HO.out _ _ rfl HK.out ?_))
  go_ret2
  exact ⟨rfl, (Same.refl _ w).alloc _⟩

theorem pos_at {w : World} {P : Nat → Prop} {x i N : Nat} {L : List Int} {c : Int} (h : IxAt 62 w P x L c N) (hL : L.length ≤ 90000) (hi : i < L.length) :
    Calls Try.prog 13 #[.pointer (some ⟨x, 0, none⟩), .int .i64 i] w fun e w' => e = .returned (.tuple #[.int .i64 L[i], .bool true]) ∧ w = w' := by
  obtain ⟨t, mb, _, _, hb, _, _, ht, _⟩ := h
  obtain ⟨x0, x1, hx⟩ := ix_cells hb
  have HL := Lib.hid (tree_at ht hL hi)
  generalize L[i] = y at *
  clear hb ht x1
  go_enter Try.func13, Try.ntmps13
  go_wp2_with fail
  refine HL.out.mono ?_
  rintro e w0 ⟨rfl, rfl⟩
  go_wp2_with fail
  go_ret2
  exact ⟨rfl, rfl⟩

end Go.Proofs.Ytelgbigpfiohfaa
