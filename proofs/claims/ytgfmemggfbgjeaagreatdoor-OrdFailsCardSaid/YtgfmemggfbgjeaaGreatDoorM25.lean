/-
  tree's first: a node's first entry; sort.Search by what a question answers, which may fail. Conditions: few elements.
-/
import Derived.Test.YtgfmemggfbgjeaaGreatDoorM24
namespace Go.Proofs.YtgfmemggfbgjeaaGreatDoor
open Go.RowKit Go.Extern.Stop Go.Stop Go.Extern Go.Lib
set_option maxRecDepth 1000000

theorem first_ret {a : Act} {w : World} {e : En} {p : Nat} {R : Ending → World → Prop} (hp : a.tmps.getD 2 undef = .pointer (some ⟨p, 0, none⟩)) (hb : w.heap[p]? = some (entObj e))
    (hd : a.defers = []) (hR : R (.returned e.agg) w) : bodyPost Tryz.prog Tryz.f88 R .ret a w := by
  exact bodyPost_ret (results_cell_row (P := Tryz.prog) rfl a.tmps w p 57 #[.slice e.ao e.n e.cap, .int .i64 e.id] (0, 0) _ hp hb Tryz.underlying57 rfl (by kernel_rfl)) hd hR

set_option maxHeartbeats 8000000 in
theorem first_any {w0 : World} {P : Nat → Prop} {n b s : Nat} {L : List En} {y : En} (hn0 : NodeAt w0 P n b s L) (hs0 : 0 < s) (hy : L[0]? = some y) :
    Calls Tryz.prog 88 #[.pointer (some ⟨b, 0, none⟩)] w0 fun e w' => e = .returned y.agg ∧ Same (fun _ => False) w0 w' := by
  obtain ⟨w, hw⟩ : ∃ w, w = w0.alloc entNil := ⟨_, rfl⟩
  have hsb : Same (fun _ => False) w0 w := by rw [hw]; exact (Same.refl _ w0).alloc _
  have hn := hn0.keep hsb (fun _ h => h.elim)
  have hrb : w.heap[w0.heap.size]? = some entNil := by rw [hw]; exact heap_alloc_new _ _
  obtain ⟨r0, r1, rf0, rf1⟩ := ent_cells hrb
  have hrl := lt_of_block hrb
  have HW := Lib.hid hw; have HSB := Lib.hid hsb; have HRB := Lib.hid hrb; have HN := Lib.hid hn; have HY := Lib.hid hy
  clear hn0 hw hsb hrb hn hy
  go_enter Tryz.func88, Tryz.ntmps88
  go_upto_region 1 with fail
  rw [← HW.out]
  go_loopg [0] n (fun rr xx wr => ∃ (b s : Nat) (M : List En), xx = .pointer (some ⟨b, 0, none⟩) ∧ NodeAt w P rr b s M ∧ 0 < s ∧ M[0]? = some y ∧ w = wr)
  case atStart => exact ⟨b, s, L, rfl, HN.out, hs0, HY.out, rfl⟩
  case round =>
    obtain ⟨b, s, M, rfl, hn, hs0, hM, rfl⟩ := hrel
    cases gk with
    | zero =>
      obtain ⟨e, h8, _, l, hb, hr, _⟩ := hn
      subst e
      obtain ⟨lb, lo, lc, lcs, lfr, rfl, hlbk, hlc⟩ := ReadE.where hr (by simpa using hs0)
      obtain ⟨n0, n1, _, _⟩ := node_cells hb
      have hlb := lt_of_block hb
      have hlk := lt_of_block hlbk
      obtain ⟨hx0, hx1⟩ := ReadE.entry hr hM
      have hpp : (0 : Int) < (M.length : Int) := by omega
      simp only [Nat.zero_mul, Nat.add_zero] at hx0 hx1
      clear hr hb hlbk hM
      go_wp2_with fail
      exact first_ret (p := w0.heap.size) (e := y) rfl (set2_obj HRB.out y) rfl ⟨rfl, set2_same HSB.out (fun h => absurd h (Nat.lt_irrefl _)) y⟩
    | succ m =>
      obtain ⟨h8, _, _, kv, ks, hs, hb, hr, _, rfl, hk⟩ := hn
      subst hs
      obtain ⟨kb, ko, kc, kcs, kfr, rfl, hkb, hkc⟩ := hr.where (by simpa using hs0)
      have hlenV : (kidsV ks).length = ks.length := by simp
      rw [hlenV] at hr hb hkc
      obtain ⟨n0, n1, _, _⟩ := node_cells hb
      have hlb := lt_of_block hb
      have hlk := lt_of_block hkb
      match ks, hk, hM, hs0 with
      | x :: ks', hk, hM, _ =>
        have hx := hr.cell (j := 0) (x := .pointer (some ⟨x.b, 0, none⟩)) rfl
        obtain ⟨x4, xn⟩ := hk x (List.mem_cons_self ..)
        have hxp := xn.pos (by omega)
        rw [kidsL_cons, List.getElem?_append_left hxp] at hM
        have hkn : (0 : Int) < ((x :: ks').length : Int) := by simp
        have HX := Lib.hid xn; have HM := Lib.hid hM
        generalize (x :: ks').length = kl at *
        clear hr hb hk hkb hM n0 xn
        simp only [Nat.add_zero] at hx
        go_wp2_with fail
        go_roundg m
        case measure => omega
        case rel => exact ⟨x.b, x.s, x.L, rfl, HX.out, by omega, HM.out, rfl⟩

/-- What sort.Search answers. -/
def SortOut (R : Bool → World → Prop) (so : Nat → Bool) (n : Nat) (st0 : Bool) (r : Ending) (w' : World) : Prop :=
  ∃ (i : Nat) (st' : Bool), r = .returned (.int .i64 i) ∧ i ≤ n ∧ R st' w' ∧ (st' = false → st0 = false ∧ (∀ k, k < i → so k = false) ∧ ∀ k, i ≤ k → k < n → so k = true)

/-- sort.Search, its question a closure over two cells: by what each question answers; 'st': has a question failed? -/
theorem sort_search {w : World} {n g : Nat} {p1 p2 : Value} {R : Bool → World → Prop} {so : Nat → Bool} {st0 : Bool} (eg : ∀ args w, (callFunc g args).run Tryz.prog w = .ok (.enter g args) w)
    (hcall : ∀ (st : Bool) (w : World) (i : Nat), R st w → i < n → Calls Tryz.prog g #[.int .i64 i, p1, p2] w fun r w' => ∃ (b st' : Bool), r = .returned (.bool b) ∧ R st' w' ∧ (st' = false → st = false ∧ b = so i))
    (hmono : ∀ i j, i ≤ j → j < n → so i = true → so j = true) (hn : n ≤ 1000000) (h0 : R st0 w) :
    Calls Tryz.prog 86 #[.int .i64 n, .func (.func g) #[] #[p1, p2]] w fun r w' => SortOut R so n st0 r w' := by
  have HC := Lib.hid hcall; have HM := Lib.hid hmono; have H0 := Lib.hid h0
  clear hcall hmono h0
  go_enter Tryz.func86, Tryz.ntmps86
  go_wp2_with fail
  go_loopg [5, 6, 7] n (fun rr vi vj _ wr => ∃ (i j : Nat) (st : Bool), i ≤ j ∧ j ≤ n ∧ j - i ≤ rr ∧ vi = .int .i64 i ∧ vj = .int .i64 j ∧ R st wr ∧ (st = false → st0 = false ∧ (∀ k, k < i → so k = false) ∧ ∀ k, j ≤ k → k < n → so k = true))
  case atStart => exact ⟨0, n, st0, by omega, by omega, by omega, rfl, rfl, H0.out, fun h => ⟨h, fun k hk => by omega, fun k h1 h2 => by omega⟩⟩
  case round =>
    obtain ⟨i, j, st, hij, hjn, hm, rfl, rfl, hR, hst⟩ := hrel
    by_cases hlt : i < j
    · have hlt' : (i : Int) < (j : Int) := by omega
      have hi6 : (i : Int) ≤ 1000000 := by omega
      have hj6 : (j : Int) ≤ 1000000 := by omega
      have HR := Lib.hid (HC.out st wr ((i + j) / 2) hR (by omega))
      have HST := Lib.hid hst
      obtain ⟨h, hh⟩ : ∃ h, (i + j) / 2 = h := ⟨_, rfl⟩
      rw [hh] at HR
      have e : ((i : Int) + (j : Int)) / 2 = (h : Int) := by omega
      have HE := Lib.hid e
      have hih : i ≤ h := by omega
      have hhj : h < j := by omega
      have h6 : (h : Int) ≤ 1000000 := by omega
      have hwr : IntKind.i64.wrap ((h : Int) + 1) = (h : Int) + 1 := by rw [IntKind.wrap_i64]; omega
      clear hR hst hh e
      go_wp2_with fail
      rw [HE.out]
      refine HR.out.mono ?_
      rintro r w1 ⟨b, st1, rfl, hR1, hb⟩
      have HR1 := Lib.hid hR1; have HB := Lib.hid hb
      clear hR1 hb
      cases b with
      | false =>
        go_wp2_with fail
        go_roundg (gk - 1)
        case measure => omega
        case rel =>
          refine ⟨h + 1, j, st1, by omega, hjn, by omega, by go_num, rfl, HR1.out, fun hf => ?_⟩
          obtain ⟨e1, e2⟩ := HB.out hf
          obtain ⟨f1, f2, f3⟩ := HST.out e1
          refine ⟨f1, fun k hk => ?_, f3⟩
          cases hq : so k with
          | false => rfl
          | true => exact absurd (HM.out k h (by omega) (by omega) hq) (by rw [← e2]; simp)
      | true =>
        go_wp2_with fail
        go_roundg (gk - 1)
        case measure => omega
        case rel =>
          refine ⟨i, h, st1, by omega, by omega, by omega, rfl, rfl, HR1.out, fun hf => ?_⟩
          obtain ⟨e1, e2⟩ := HB.out hf
          obtain ⟨f1, f2, f3⟩ := HST.out e1
          exact ⟨f1, f2, fun k hk hkn => HM.out h k hk hkn e2.symm⟩
    · have hlt' : ¬ (i : Int) < (j : Int) := by omega
      have HR := Lib.hid hR; have HST := Lib.hid hst
      clear hR hst
      go_wp2_with fail
      go_ret
      refine ⟨i, st, rfl, by omega, HR.out, fun h => ?_⟩
      obtain ⟨h1, h2, h3⟩ := HST.out h
      exact ⟨h1, h2, fun k hk => h3 k (by omega)⟩

end Go.Proofs.YtgfmemggfbgjeaaGreatDoor
