/-
  A tree as a whole: places that aren't there; At, SetAt, Slice. Conditions: few elements, a small count of writes.
-/
import Derived.Test.YtelgbigpfiohfaaTreeTop
namespace Go.Proofs.Ytelgbigpfiohfaa
open Go.RowKit Go.Extern.Stop Go.Stop Go.Extern Go.Lib
set_option maxRecDepth 1000000

set_option maxHeartbeats 4000000 in
theorem tree_insert_no {w : World} {P : Nat → Prop} {t : Nat} {L : List Int} {c i v : Int} (h : TreeIs w P t L c) (hi : i < 0 ∨ (L.length : Int) < i) :
    Calls Try.prog 31 #[.pointer (some ⟨t, 0, none⟩), .int .i64 i, .int .i64 v] w fun e w' => e = .returned (.int .i64 73) ∧ w = w' := by
  have HLEN := Lib.hid (tree_len h)
  clear h
  by_cases h0 : i < 0
  all_goals (
    have hi' : ¬ i < 0 → (L.length : Int) < i := fun h => hi.resolve_left h
    have HI := Lib.hid hi'
    clear hi hi'
    first
    | (go_enter Try.func31, Try.ntmps31
       have hlt := HI.out h0
       go_wp2_with (first | (go_at_call 47; refine HLEN.out.mono ?_; rintro e w0 ⟨rfl, rfl⟩))
       go_ret
       exact ⟨rfl, rfl⟩)
    | (go_enter Try.func31, Try.ntmps31
       go_wp2_with fail
       go_ret
       exact ⟨rfl, rfl⟩))

set_option maxHeartbeats 4000000 in
theorem tree_at_no {w : World} {P : Nat → Prop} {t : Nat} {L : List Int} {c i : Int} (h : TreeIs w P t L c) (hi : i < 0 ∨ (L.length : Int) ≤ i) :
    Calls Try.prog 35 #[.pointer (some ⟨t, 0, none⟩), .int .i64 i] w fun e w' => e = .returned (.tuple #[.int .i64 0, .bool false]) ∧ w = w' := by
  have HLEN := Lib.hid (tree_len h)
  clear h
  by_cases h0 : i < 0
  all_goals (
    have hi' : ¬ i < 0 → (L.length : Int) ≤ i := fun h => hi.resolve_left h
    have HI := Lib.hid hi'
    clear hi hi'
    first
    | (go_enter Try.func35, Try.ntmps35
       have hlt := HI.out h0
       go_wp2_with (first | (go_at_call 47; refine HLEN.out.mono ?_; rintro e w0 ⟨rfl, rfl⟩))
       go_ret2
       exact ⟨rfl, rfl⟩)
    | (go_enter Try.func35, Try.ntmps35
       go_wp2_with fail
       go_ret2
       exact ⟨rfl, rfl⟩))

set_option maxHeartbeats 4000000 in
theorem tree_set_no {w : World} {P : Nat → Prop} {t : Nat} {L : List Int} {c i v : Int} (h : TreeIs w P t L c) (hi : i < 0 ∨ (L.length : Int) ≤ i) :
    Calls Try.prog 43 #[.pointer (some ⟨t, 0, none⟩), .int .i64 i, .int .i64 v] w fun e w' => e = .returned (.int .i64 73) ∧ w = w' := by
  have HLEN := Lib.hid (tree_len h)
  clear h
  by_cases h0 : i < 0
  all_goals (
    have hi' : ¬ i < 0 → (L.length : Int) ≤ i := fun h => hi.resolve_left h
    have HI := Lib.hid hi'
    clear hi hi'
    first
    | (go_enter Try.func43, Try.ntmps43
       have hlt := HI.out h0
       go_wp2_with (first | (go_at_call 47; refine HLEN.out.mono ?_; rintro e w0 ⟨rfl, rfl⟩))
       go_ret
       exact ⟨rfl, rfl⟩)
    | (go_enter Try.func43, Try.ntmps43
       go_wp2_with fail
       go_ret
       exact ⟨rfl, rfl⟩))

theorem TreeIs.some {w : World} {P : Nat → Prop} {t : Nat} {L : List Int} {c : Int} (h : TreeIs w P t L c) (h0 : 0 < L.length) : ∃ n b s, w.heap[t]? = some (headObj (.pointer (some ⟨b, 0, none⟩)) c) ∧ NodeAt w P n b s L ∧ 0 < s ∧ (n ≠ 0 → 2 ≤ s) := by
  rcases h.2 with ⟨rfl, _⟩ | h
  · simp at h0
  · exact h

set_option maxHeartbeats 4000000 in
theorem tree_set {w : World} {P : Nat → Prop} {t i : Nat} {L : List Int} {c v : Int} (h : TreeIs w P t L c) (hP : ∀ k, w.heap.size ≤ k → P k) (hc : 0 ≤ c ∧ c ≤ 700000000) (hL : L.length ≤ 90000) (hi : i < L.length) :
    Calls Try.prog 43 #[.pointer (some ⟨t, 0, none⟩), .int .i64 i, .int .i64 v] w fun e w' => e = .returned (.int .i64 0) ∧ TreeGot w w' P t L (L.set i v) c := by
  have HLEN := Lib.hid (tree_len h)
  have hii : (i : Int) < (L.length : Int) := by omega
  obtain ⟨n, b, s, hh, hn, h0, h2⟩ := h.some (by omega)
  obtain ⟨g0, g1, gf⟩ := head_cells hh
  have hlt := lt_of_block hh
  have hlow := low_of hn h2
  have h8 := low_small hlow (by omega)
  have HREC := Lib.hid (set_any n (v := v) (i := i) hh ⟨by omega, by omega⟩ hn h0 hi (by omega) hP)
  have HLOW := Lib.hid hlow; have H2 := Lib.hid h2; have HPT := Lib.hid h.1
  clear h hh hn g1 gf hlow h2
  go_enter Try.func43, Try.ntmps43
  go_wp2_with (first | (go_at_call 47; refine HLEN.out.mono ?_; rintro e w0 ⟨rfl, rfl⟩))
  refine HREC.out.mono ?_
  rintro e w1 ⟨b1, s1, rfl, hlo, hhi, hn1, ⟨d, hd, hh1⟩, hs1⟩
  have hlt1 := lt_of_block hh1
  obtain ⟨q0, q1, qf⟩ := head_cells hh1
  have qf0 := qf 0
  have hs3 : Same (fun k => k = t) w1 (w1.setCell ⟨t, 0, none⟩ (.pointer (some ⟨b1, 0, none⟩))) := (Same.refl (fun k => k = t) w1).setCell (p := ⟨t, 0, none⟩) (fun _ => rfl) _
  have hfin : TreeGot w (w1.setCell ⟨t, 0, none⟩ (.pointer (some ⟨b1, 0, none⟩))) P t L (L.set i v) c :=
    ⟨⟨d, n, HLOW.out, by omega, HPT.out, Or.inr ⟨n, b1, s1, head_set hh1, hn1.same hh1 hs3, by omega, fun h => by have := H2.out h; omega⟩⟩, hs1.trans hs3 (fun _ _ h => h)⟩
  have HF := Lib.hid hfin
  clear hn1 hh1 hs1 hs3 hfin q1 qf
  go_wp2_with fail
  go_ret
  exact ⟨rfl, HF.out⟩

set_option maxHeartbeats 8000000 in
theorem tree_at {w : World} {P : Nat → Prop} {t i : Nat} {L : List Int} {c : Int} (h : TreeIs w P t L c) (hL : L.length ≤ 90000) (hi : i < L.length) :
    Calls Try.prog 35 #[.pointer (some ⟨t, 0, none⟩), .int .i64 i] w fun e w' => e = .returned (.tuple #[.int .i64 L[i], .bool true]) ∧ w = w' := by
  have HLEN := Lib.hid (tree_len h)
  have hii : (i : Int) < (L.length : Int) := by omega
  have hile : ¬ (L.length ≤ i) := by omega
  have hil2 : ¬ ((L.length : Int) ≤ (i : Int)) := by omega
  obtain ⟨n, b, s, hh, hn, h0, h2⟩ := h.some (by omega)
  obtain ⟨g0, g1, gf⟩ := head_cells hh
  have hlt := lt_of_block hh
  have HN := Lib.hid hn; have HL := Lib.hid hL
  clear h hh hn g1 gf h2
  go_enter Try.func35, Try.ntmps35
  go_wp2_with (first | (go_at_call 47; refine HLEN.out.mono ?_; rintro e w0 ⟨rfl, rfl⟩))
  go_loopg [1, 7] n (fun rr ii xx wr => ∃ (b s p : Nat) (M : List Int), ii = .int .i64 p ∧ xx = .pointer (some ⟨b, 0, none⟩) ∧ NodeAt w P rr b s M ∧ 0 < s ∧ p < M.length ∧ M[p]? = L[i]? ∧ M.length ≤ 90000 ∧ w = wr)
  case atStart => exact ⟨b, s, i, L, rfl, rfl, HN.out, h0, hi, rfl, HL.out, rfl⟩
  case round =>
    obtain ⟨b, s, p, M, rfl, rfl, hn, hs0, hp, hM, hML, rfl⟩ := hrel
    cases gk with
    | zero =>
      obtain ⟨e, h8, _, l, hb, hr, _⟩ := hn
      subst e
      obtain ⟨lb, lo, lc, lcs, lfr, rfl, hlbk, hlc⟩ := hr.where (by simpa using hs0)
      have hlV : (intsV M).length = M.length := by simp
      rw [hlV] at hr hb hlc
      obtain ⟨n0, n1, _, _⟩ := node_cells hb
      have hlb := lt_of_block hb
      have hlk := lt_of_block hlbk
      have hx := hr.cell (j := p) (x := .int .i64 M[p]) (by simp [hp])
      have hpp : (p : Int) < (M.length : Int) := by omega
      have hLi : M[p] = L[i] := by
        rw [List.getElem?_eq_getElem hp, List.getElem?_eq_getElem hi] at hM
        exact Option.some.inj hM
      rw [hLi] at hx
      clear hr hb hlbk hM hLi
      go_wp2_with fail
      go_ret2
      exact ⟨rfl, rfl⟩
    | succ m =>
      obtain ⟨h8, _, _, kv, ks, hs, hb, hr, _, rfl, hk⟩ := hn
      subst hs
      obtain ⟨kb, ko, kc, kcs, kfr, rfl, hkb, hkc⟩ := hr.where (by simpa using hs0)
      have hlenV : (kidsV ks).length = ks.length := by simp
      rw [hlenV] at hr hb hkc
      obtain ⟨n0, n1, _, _⟩ := node_cells hb
      have hlb := lt_of_block hb
      have hlk := lt_of_block hkb
      have HD := Lib.hid (down_kids (i := p) hb hr (fun c hc => (hk c hc).2) hs0 h8 (by omega) (by omega))
      have HR := Lib.hid hr; have HK := Lib.hid hk; have HM := Lib.hid hM
      have hkn : (0 : Int) < (ks.length : Int) := by omega
      clear hr hb hk hkb hM n0
      go_wp2_with fail
      refine HD.out.mono ?_
      rintro e w0 ⟨rfl, j, q, x, rfl, hkj, hj, hip, _, hq⟩
      have hjj : (j : Int) < (ks.length : Int) := by omega
      have hqx := hq hp
      have hx := HR.out.cell (j := j) (x := .pointer (some ⟨x.b, 0, none⟩)) (by simp [hkj])
      have hxm := List.mem_of_getElem? hkj
      have hxl := kid_le hxm
      have hMx : x.L[q]? = L[i]? := by
        rw [← HM.out, kids_split hkj, hip, List.getElem?_append_right (by omega), Nat.add_sub_cancel_left, List.getElem?_append_left hqx]
      have HMX := Lib.hid hMx; have HX := Lib.hid (HK.out x hxm); have HXL := Lib.hid hxl; have HIP := Lib.hid hip; have HML := Lib.hid hML
      clear hkj hip hq hxm hMx hxl hML
      go_wp2_with fail
      go_roundg m
      case measure => omega
      case rel => exact ⟨x.b, x.s, q, x.L, rfl, rfl, HX.out.2, by have := HX.out.1; omega, hqx, HMX.out, by have := HXL.out; have := HML.out; omega, rfl⟩

end Go.Proofs.Ytelgbigpfiohfaa
