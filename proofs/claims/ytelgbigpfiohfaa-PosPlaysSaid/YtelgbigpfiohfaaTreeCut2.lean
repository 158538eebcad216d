/-
  A tree as a whole: EraseAt, Slice of all, Writes, New. Conditions: few elements, a small count of writes.
-/
import Derived.Test.YtelgbigpfiohfaaTreeGet
namespace Go.Proofs.Ytelgbigpfiohfaa
open Go.RowKit Go.Extern.Stop Go.Stop Go.Extern Go.Lib
set_option maxRecDepth 1000000

set_option maxHeartbeats 4000000 in
theorem tree_erase_no {w : World} {P : Nat → Prop} {t : Nat} {L : List Int} {c i : Int} (h : TreeIs w P t L c) (hi : i < 0 ∨ (L.length : Int) ≤ i) :
    Calls Try.prog 33 #[.pointer (some ⟨t, 0, none⟩), .int .i64 i] w fun e w' => e = .returned (.tuple #[.int .i64 0, .int .i64 73]) ∧ w = w' := by
  have HAT := Lib.hid (tree_at_no h hi)
  clear h hi
  go_enter Try.func33, Try.ntmps33
  go_wp2_with fail
  refine HAT.out.mono ?_
  rintro e w0 ⟨rfl, rfl⟩
  go_wp2_with fail
  go_ret2
  exact ⟨rfl, rfl⟩

theorem NodeAt.spos {w : World} {P : Nat → Prop} {h b s : Nat} {L : List Int} (hn : NodeAt w P h b s L) (h0 : 0 < L.length) : 0 < s := by
  cases h with
  | zero => obtain ⟨e, _⟩ := hn; omega
  | succ h => exact hn.2.1

set_option maxHeartbeats 8000000 in
theorem tree_erase {w : World} {P : Nat → Prop} {t i : Nat} {L : List Int} {c : Int} (h : TreeIs w P t L c) (hP : ∀ k, w.heap.size ≤ k → P k) (hc : 0 ≤ c ∧ c ≤ 700000000) (hL : L.length ≤ 90000) (hi : i < L.length) :
    Calls Try.prog 33 #[.pointer (some ⟨t, 0, none⟩), .int .i64 i] w fun e w' => e = .returned (.tuple #[.int .i64 L[i], .int .i64 0]) ∧ TreeGot w w' P t L (L.take i ++ L.drop (i + 1)) c := by
  have HAT := Lib.hid (tree_at h hL hi)
  obtain ⟨n, b, s, hh, hn, h0, h2⟩ := h.some (by omega)
  obtain ⟨g0, g1, gf⟩ := head_cells hh
  have hlt := lt_of_block hh
  have hlow := low_of hn h2
  have h8 := low_small hlow (by omega)
  have HREC := Lib.hid (erase_any n (i := i) hh ⟨by omega, by omega⟩ hn h0 h2 hi (by omega) hP)
  have HLOW := Lib.hid hlow; have H2 := Lib.hid h2; have HPT := Lib.hid h.1; have HI := Lib.hid hi; have HL := Lib.hid hL
  generalize L[i] = y at *
  clear h hh hn g1 gf hlow h2 hi
  go_enter Try.func33, Try.ntmps33
  go_wp2_with fail
  refine HAT.out.mono ?_
  rintro e w0 ⟨rfl, rfl⟩
  go_wp2_with fail
  refine HREC.out.mono ?_
  rintro e w1 ⟨b1, s1, rfl, hlo, hhi, hn1, ⟨d, hd, hh1⟩, hs1⟩
  have hlt1 := lt_of_block hh1
  obtain ⟨q0, q1, qf⟩ := head_cells hh1
  have qf0 := qf 0
  have hs3 : Same (fun k => k = t) w1 (w1.setCell ⟨t, 0, none⟩ (.pointer (some ⟨b1, 0, none⟩))) := (Same.refl (fun k => k = t) w1).setCell (p := ⟨t, 0, none⟩) (fun _ => rfl) _
  have hrel0 : ∃ n' b' s', (w1.setCell ⟨t, 0, none⟩ (.pointer (some ⟨b1, 0, none⟩))).heap[t]? = some (headObj (.pointer (some ⟨b', 0, none⟩)) (c + d)) ∧ NodeAt (w1.setCell ⟨t, 0, none⟩ (.pointer (some ⟨b1, 0, none⟩))) P n' b' s' (L.take i ++ L.drop (i + 1)) ∧ (1 = 0 → (n' ≠ 0 → 2 ≤ s')) ∧ Same (fun k => k = t) w (w1.setCell ⟨t, 0, none⟩ (.pointer (some ⟨b1, 0, none⟩))) :=
    ⟨n, b1, s1, head_set hh1, hn1.same hh1 hs3, fun h => by omega, hs1.trans hs3 (fun _ _ h => h)⟩
  have HREL := Lib.hid hrel0
  clear hn1 hh1 hs1 hs3 hrel0 q1 qf
  go_wp2_with fail
  go_loopg [] 1 (fun rr wr => ∃ n' b' s', wr.heap[t]? = some (headObj (.pointer (some ⟨b', 0, none⟩)) (c + d)) ∧ NodeAt wr P n' b' s' (L.take i ++ L.drop (i + 1)) ∧ (rr = 0 → (n' ≠ 0 → 2 ≤ s')) ∧ Same (fun k => k = t) w wr)
  case atStart => exact HREL.out
  case round =>
    obtain ⟨n', b', s', hh', hn', hz, hs'⟩ := hrel
    have hlt' := lt_of_block hh'
    obtain ⟨r0, r1, rf⟩ := head_cells hh'
    have rf0 := rf 0
    obtain ⟨ln, kn, hbn⟩ := hn'.count
    have hbt : b' ≠ t := fun e => by rw [e, hh'] at hbn; simp at hbn
    have hlen : (L.take i ++ L.drop (i + 1)).length = L.length - 1 := by have := HI.out; rw [List.length_append, List.length_take, List.length_drop]; omega
    have hdone : 0 < (L.take i ++ L.drop (i + 1)).length → (n' ≠ 0 → 2 ≤ s') → TreeGot w wr P t L (L.take i ++ L.drop (i + 1)) c := fun hp h2' =>
      ⟨⟨d, n, HLOW.out, by omega, HPT.out, Or.inr ⟨n', b', s', hh', hn', hn'.spos hp, h2'⟩⟩, hs'⟩
    have hnil : (L.take i ++ L.drop (i + 1)).length = 0 → TreeGot w (wr.setCell ⟨t, 0, none⟩ (.pointer none)) P t L (L.take i ++ L.drop (i + 1)) c := fun hp => by
      have hs3 : Same (fun k => k = t) wr (wr.setCell ⟨t, 0, none⟩ (.pointer none)) := (Same.refl (fun k => k = t) wr).setCell (p := ⟨t, 0, none⟩) (fun _ => rfl) _
      exact ⟨⟨d, n, HLOW.out, by omega, HPT.out, Or.inl ⟨List.length_eq_zero_iff.1 hp, head_set hh'⟩⟩, hs'.trans hs3 (fun _ _ h => h)⟩
    have HDONE := Lib.hid hdone; have HNIL := Lib.hid hnil; have HH' := Lib.hid hh'; have HS' := Lib.hid hs'; have HZ := Lib.hid hz
    cases n' with
    | zero =>
      obtain ⟨e, h8', _, l, hb, hr, _⟩ := hn'
      obtain ⟨n0, n1, n2, _⟩ := node_cells hb
      have hlb := lt_of_block hb
      clear hbn hdone hnil hh' hs' hz hb hr r1 rf n0
      generalize hLE : L.take i ++ L.drop (i + 1) = LE at *
      have HLE := Lib.hid hLE
      clear hLE
      by_cases h0' : LE.length = 0
      · have h0i : (LE.length : Int) = 0 := by omega
        have HF := Lib.hid (HNIL.out h0')
        rw [h0i] at n2
        clear h0i h0' hlen e
        go_wp2_with fail
        go_ret2
        exact ⟨rfl, by rw [HLE.out]; exact HF.out⟩
      · have h0i : ¬ ((LE.length : Int) = 0) := by omega
        have HF := Lib.hid (HDONE.out (by omega) (fun h => absurd rfl h))
        clear hlen e
        go_wp2_with fail
        go_ret2
        exact ⟨rfl, by rw [HLE.out]; exact HF.out⟩
    | succ m =>
      have hpos := hn'.pos hn'.2.1
      obtain ⟨h8', hs0', _, kv, ks, hse, hb, hr, _, hle, hk⟩ := hn'
      subst hse
      obtain ⟨kb, ko, kc, kcs, kfr, rfl, hkb, hkc⟩ := hr.where (by simpa using hs0')
      have hlenV : (kidsV ks).length = ks.length := by simp
      rw [hlenV] at hr hb hkc
      obtain ⟨n0, n1, n2, _⟩ := node_cells hb
      have hlb := lt_of_block hb
      have hlk := lt_of_block hkb
      clear hbn hdone hnil hh' hs' hz r1 rf n0
      by_cases hk1 : ks.length = 1
      · have hk1i : (ks.length : Int) = 1 := by omega
        obtain ⟨x, rfl⟩ := List.length_eq_one_iff.1 hk1
        have hx := hr.cell (j := 0) (x := .pointer (some ⟨x.b, 0, none⟩)) rfl
        obtain ⟨x4, xn⟩ := hk x (List.mem_singleton.2 rfl)
        have hkt : kb ≠ t := fun e => by have h1 := HH'.out; rw [e, h1] at hkb; simp at hkb
        rw [kidsL_cons, kidsL_nil, List.append_nil] at hle
        have hs3 : Same (fun k => k = t) wr (wr.setCell ⟨t, 0, none⟩ (.pointer (some ⟨x.b, 0, none⟩))) := (Same.refl (fun k => k = t) wr).setCell (p := ⟨t, 0, none⟩) (fun _ => rfl) _
        have hnew : ∃ n' b' s', (wr.setCell ⟨t, 0, none⟩ (.pointer (some ⟨x.b, 0, none⟩))).heap[t]? = some (headObj (.pointer (some ⟨b', 0, none⟩)) (c + d)) ∧ NodeAt (wr.setCell ⟨t, 0, none⟩ (.pointer (some ⟨x.b, 0, none⟩))) P n' b' s' (L.take i ++ L.drop (i + 1)) ∧ (0 = 0 → (n' ≠ 0 → 2 ≤ s')) ∧ Same (fun k => k = t) w (wr.setCell ⟨t, 0, none⟩ (.pointer (some ⟨x.b, 0, none⟩))) :=
          ⟨m, x.b, x.s, head_set HH'.out, by rw [hle]; exact xn.same HH'.out hs3, fun _ _ => by omega, HS'.out.trans hs3 (fun _ _ h => h)⟩
        have HNEW := Lib.hid hnew
        cases gk with
        | zero =>
          have := HZ.out rfl (by omega)
          simp at this
        | succ g =>
          have hxo : wr.cell? ⟨kb, ko, none⟩ = some (.pointer (some ⟨x.b, 0, none⟩)) := hx
          clear hr hb hk hkb xn hnew hs3 hle hx
          simp only [List.length_singleton] at n1 hk1 hk1i hkc
          go_wp2_with fail
          go_roundg 0
          case measure => omega
          case rel =>
            obtain ⟨n2, b2, s2, a1, a2, a3, a4⟩ := HNEW.out
            exact ⟨n2, b2, s2, a1, a2, fun _ => a3 (by trivial), a4⟩
      · have hk1i : ¬ ((ks.length : Int) = 1) := by omega
        generalize hLE : L.take i ++ L.drop (i + 1) = LE at *
        have HLE := Lib.hid hLE
        clear hLE
        have h0i : ¬ ((LE.length : Int) = 0) := by omega
        have HF := Lib.hid (HDONE.out (by omega) (fun _ => by omega))
        clear hr hb hk hkb hle hlen hpos
        go_wp2_with fail
        go_ret2
        exact ⟨rfl, by rw [HLE.out]; exact HF.out⟩

end Go.Proofs.Ytelgbigpfiohfaa
