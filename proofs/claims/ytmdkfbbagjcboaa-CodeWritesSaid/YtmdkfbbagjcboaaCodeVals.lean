/-
  The document's answers on rows of values, told of memory: Few, Compare, Rows, Vals. Conditions: none on inputs.
-/
import Derived.Test.YtmdkfbbagjcboaaCodeMath
import Derived.Deep.RegionHeld3
import Derived.Deep.LoopGhost
namespace Go.Proofs.Ytmdkfbbagjcboaa
open Go.RowKit

theorem ReadV.same {w w' : World} {v : Value} {L : List V} (h : ReadV w v L) (hs : Same (fun _ => False) w w') : ReadV w' v L := by
  obtain ⟨ao, cap, rfl, hc⟩ := h
  refine ⟨ao, cap, rfl, fun j x hj => ?_⟩
  obtain ⟨b, off, rfl, hb, e0, e1, e2, e3⟩ := hc j x hj
  have hblk := hs.block b hb id
  exact ⟨b, off, rfl, Nat.lt_of_lt_of_le hb hs.size, (World.cell?_of_block (a := ⟨b, _, none⟩) hblk).trans e0, (World.cell?_of_block (a := ⟨b, _, none⟩) hblk).trans e1,
    (World.cell?_of_block (a := ⟨b, _, none⟩) hblk).trans e2, (World.cell?_of_block (a := ⟨b, _, none⟩) hblk).trans e3⟩

def fewV (L : List V) : Bool := L.all fun x => decide (x.s.size ≤ 200)

theorem fewV_take (L : List V) (j : Nat) (x : V) (hj : L[j]? = some x) : fewV (L.take (j + 1)) = (fewV (L.take j) && decide (x.s.size ≤ 200)) := by
  have hlt := (List.getElem?_eq_some_iff.1 hj).1
  have hx := (List.getElem?_eq_some_iff.1 hj).2
  rw [List.take_succ_eq_append_getElem hlt, hx]
  simp [fewV]

theorem fewV_false (L : List V) (j : Nat) (x : V) (hj : L[j]? = some x) (h : ¬ x.s.size ≤ 200) : fewV L = false := by
  rw [Bool.eq_false_iff]
  intro hf
  simp only [fewV, List.all_eq_true, decide_eq_true_eq] at hf
  exact h (hf x (List.mem_of_getElem? hj))

theorem few_any {w : World} {v : Value} {L : List V} (h : ReadV w v L) (hok : ∀ x ∈ L, x.ok) (hn : L.length ≤ maxLen) (many : Int) :
    Calls Try.prog 9 #[v, .int .i64 many] w fun e w' => e = .returned (.bool (fewV L && decide ((L.length : Int) ≤ many))) ∧ w = w' := by
  obtain ⟨ao, cap, rfl, hc⟩ := h
  have HC := Lib.hid hc; have HOK := Lib.hid hok
  unfold maxLen at hn
  clear hc hok
  go_enter Try.func9, Try.ntmps9
  go_wp2_with fail
  go_loopg [5] L.length (fun r i wr => ∃ j : Nat, j + r = L.length ∧ i = .int .i64 j ∧ fewV (L.take j) = true ∧ wr = w)
  case atStart => exact ⟨0, by omega, rfl, rfl, rfl⟩
  case round =>
    obtain ⟨j, hj, rfl, hf, rfl⟩ := hrel
    have HF := Lib.hid hf; clear hf
    by_cases h0 : gk = 0
    · subst h0
      obtain rfl : j = L.length := by omega
      clear hj
      go_wp2_with fail
      go_ret
      exact ⟨ret_bool (by have := HF.out; rw [List.take_length] at this; rw [this, Bool.true_and]), rfl⟩
    · have hjl : j < L.length := by omega
      obtain ⟨x, hx⟩ : ∃ x, L[j]? = some x := ⟨L[j], List.getElem?_eq_getElem hjl⟩
      obtain ⟨b, off, rfl, hb, _, _, e2, _⟩ := HC.out j x hx
      have hxs := (HOK.out x (List.mem_of_getElem? hx)).s1
      unfold maxLen at hxs
      have HX := Lib.hid hx; clear hx
      by_cases hs : (x.s.size : Int) > 200
      · have hl : ¬ x.s.size ≤ 200 := by omega
        have HL := Lib.hid (fewV_false L j x HX.out hl); clear hl
        go_wp2_with fail
        go_ret
        exact ⟨ret_bool (by rw [HL.out, Bool.false_and]), rfl⟩
      · have hl : x.s.size ≤ 200 := by omega
        have HL := Lib.hid (fewV_take L j x HX.out)
        go_wp2_with fail
        go_roundg (gk - 1)
        case measure => omega
        case rel => exact ⟨j + 1, by omega, by go_num, by rw [HL.out, HF.out]; simp [hl], rfl⟩

theorem compare_any (x y : V) (hx : x.ok) (hy : y.ok) (w : World) :
    Calls Try.prog 26 #[x.val, y.val] w fun e w' => e = .returned (.int .i64 (cmpV x y)) ∧ w' = (w.alloc x.obj).alloc y.obj := by
  obtain ⟨k, i, s, f⟩ := x
  obtain ⟨l, j, t, g⟩ := y
  have hf := hx.f1
  have hg := hy.f1
  simp only at hf hg
  clear hx hy
  simp only [V.val, V.obj]
  by_cases hk : k = l
  · subst hk
    by_cases hi : i = j
    · subst hi
      by_cases hs : s = t
      · subst hs
        have hc : cmpV ⟨k, i, s, f⟩ ⟨k, i, s, g⟩ = cmpF f g := by simp [cmpV]
        have HC := Lib.hid hc; clear hc
        go_enter Try.func26, Try.ntmps26
        go_wp2_with fail
        refine (rcompare_any f g hf hg _).mono ?_
        rintro e w' ⟨rfl, rfl⟩
        go_wp2_with fail
        go_ret
        exact ⟨ret_i64 HC.out.symm, rfl⟩
      · have hst : (s.toList == t.toList) = false := by
          rw [beq_eq_false_iff_ne]
          intro h
          rw [Go.ByteArray.toList_eq, Go.ByteArray.toList_eq] at h
          exact hs (ByteArray.ext (by simpa using congrArg List.toArray h))
        have hc : cmpV ⟨k, i, s, f⟩ ⟨k, i, t, g⟩ = sgn (Op.bytesLess s.toList t.toList) := by simp [cmpV, hs]
        have HC := Lib.hid hc; clear hc hs
        go_enter Try.func26, Try.ntmps26
        go_wp2_with fail
        refine (sign_any _ _).mono ?_
        rintro e w' ⟨rfl, rfl⟩
        go_wp2_with fail
        go_ret
        exact ⟨ret_i64 HC.out.symm, rfl⟩
    · have hc : cmpV ⟨k, i, s, f⟩ ⟨k, j, t, g⟩ = sgn (decide (i < j)) := by simp [cmpV, hi]
      have HC := Lib.hid hc; clear hc
      go_enter Try.func26, Try.ntmps26
      go_wp2_with fail
      refine (sign_any _ _).mono ?_
      rintro e w' ⟨rfl, rfl⟩
      go_wp2_with fail
      go_ret
      exact ⟨ret_i64 HC.out.symm, rfl⟩
  · have hc : cmpV ⟨k, i, s, f⟩ ⟨l, j, t, g⟩ = sgn (decide (k < l)) := by simp [cmpV, hk]
    have HC := Lib.hid hc; clear hc
    go_enter Try.func26, Try.ntmps26
    go_wp2_with fail
    refine (sign_any _ _).mono ?_
    rintro e w' ⟨rfl, rfl⟩
    go_wp2_with fail
    go_ret
    exact ⟨ret_i64 HC.out.symm, rfl⟩

theorem rowsV_drop {A B : List V} {j : Nat} {x y : V} (hx : A[j]? = some x) (hy : B[j]? = some y) : rowsV (A.drop j) (B.drop j) = if cmpV x y ≠ 0 then cmpV x y else rowsV (A.drop (j + 1)) (B.drop (j + 1)) := by
  obtain ⟨ha, ea⟩ := List.getElem?_eq_some_iff.1 hx
  obtain ⟨hb, eb⟩ := List.getElem?_eq_some_iff.1 hy
  rw [List.drop_eq_getElem_cons ha, List.drop_eq_getElem_cons hb, ea, eb]
  rfl

theorem rowsV_end {A B : List V} {j : Nat} (hj : j ≤ A.length) (hj2 : j ≤ B.length) (h : ¬ (j < A.length ∧ j < B.length)) :
    rowsV (A.drop j) (B.drop j) = if A.length = B.length then 0 else sgn (decide (A.length < B.length)) := by
  rcases Nat.lt_or_ge j A.length with h1 | h1
  · have h2 : B.drop j = [] := List.drop_of_length_le (by omega)
    rw [h2, List.drop_eq_getElem_cons h1, if_neg (by omega), decide_eq_false (by omega)]
    rfl
  · have h2 : A.drop j = [] := List.drop_of_length_le (by omega)
    rw [h2]
    rcases Nat.lt_or_ge j B.length with h3 | h3
    · rw [List.drop_eq_getElem_cons h3, if_neg (by omega), decide_eq_true (by omega)]
      rfl
    · rw [List.drop_of_length_le (by omega), if_pos (by omega)]
      rfl

set_option maxRecDepth 10000000 in
set_option maxHeartbeats 4000000 in
theorem rows_any {w : World} {v u : Value} {A B : List V} (h : ReadV w v A) (g : ReadV w u B) (hok : ∀ x ∈ A, x.ok) (gok : ∀ x ∈ B, x.ok) (_hn : A.length ≤ maxLen) (gn : B.length ≤ maxLen) :
    Calls Try.prog 16 #[v, u] w fun e w' => e = .returned (.int .i64 (rowsV A B)) ∧ Same (fun _ => False) w w' := by
  obtain ⟨ao, cap, rfl, hc⟩ := h
  obtain ⟨bo, dap, rfl, gc⟩ := g
  have HC := Lib.hid hc; have HOK := Lib.hid hok; have GC := Lib.hid gc; have GOK := Lib.hid gok
  unfold maxLen at _hn gn
  clear hc hok gc gok
  go_enter Try.func16, Try.ntmps16
  go_wp2_with fail
  go_loopg [5] A.length (fun r i wr => ∃ j : Nat, j + r = A.length ∧ i = .int .i64 j ∧ j ≤ B.length ∧ rowsV A B = rowsV (A.drop j) (B.drop j) ∧ Same (fun _ => False) w wr)
  case atStart => exact ⟨0, by omega, rfl, by omega, rfl, Same.refl _ _⟩
  case round =>
    obtain ⟨j, hj, rfl, hjb, hr, hs⟩ := hrel
    have HR := Lib.hid hr; have HS := Lib.hid hs
    clear hr hs
    by_cases hboth : j < A.length ∧ j < B.length
    · obtain ⟨ja, jb⟩ := hboth
      obtain ⟨⟨xk, xi, xs, xf⟩, hx⟩ : ∃ x, A[j]? = some x := ⟨A[j], List.getElem?_eq_getElem ja⟩
      obtain ⟨⟨yk, yi, ys, yf⟩, hy⟩ : ∃ y, B[j]? = some y := ⟨B[j], List.getElem?_eq_getElem jb⟩
      obtain ⟨b, off, rfl, hb, a0, a1, a2, a3⟩ := HC.out j _ hx
      obtain ⟨b', off', rfl, hb', z0, z1, z2, z3⟩ := GC.out j _ hy
      have hbl := HS.out.block b hb id
      have hbl' := HS.out.block b' hb' id
      rw [← World.cell?_of_block (a := ⟨b, _, none⟩) hbl] at a0 a1 a2 a3
      rw [← World.cell?_of_block (a := ⟨b', _, none⟩) hbl'] at z0 z1 z2 z3
      simp only at a0 a1 a2 a3 z0 z1 z2 z3
      have hxo := HOK.out _ (List.mem_of_getElem? hx)
      have hyo := GOK.out _ (List.mem_of_getElem? hy)
      have hcmp := compare_any ⟨xk, xi, xs, xf⟩ ⟨yk, yi, ys, yf⟩ hxo hyo
      have hd := rowsV_drop hx hy
      obtain ⟨c, hc⟩ : ∃ c, c = cmpV ⟨xk, xi, xs, xf⟩ ⟨yk, yi, ys, yf⟩ := ⟨_, rfl⟩
      rw [← hc] at hcmp hd
      have HCMP := Lib.hid hcmp; have HD := Lib.hid hd
      have hl1 : b < wr.heap.size := Nat.lt_of_lt_of_le hb HS.out.size
      have hl2 : b' < wr.heap.size := Nat.lt_of_lt_of_le hb' HS.out.size
      clear hx hy hbl hbl' hxo hyo hcmp hd hc HC GC HOK GOK
      go_wp2_with fail
      go_region_held3 (fun w' => w'.cell? ⟨b, off + j * 4, none⟩ = some (.int .i64 xk) ∧ w'.cell? ⟨b, off + j * 4 + 1, none⟩ = some (.int .i64 xi) ∧ w'.cell? ⟨b, off + j * 4 + 2, none⟩ = some (.string xs) ∧ w'.cell? ⟨b, off + j * 4 + 3, none⟩ = some (.float .f64 xf) ∧
          w'.cell? ⟨b', off' + j * 4, none⟩ = some (.int .i64 yk) ∧ w'.cell? ⟨b', off' + j * 4 + 1, none⟩ = some (.int .i64 yi) ∧ w'.cell? ⟨b', off' + j * 4 + 2, none⟩ = some (.string ys) ∧ w'.cell? ⟨b', off' + j * 4 + 3, none⟩ = some (.float .f64 yf)) (go_keep)
        (first | (go_at_call 26; refine (HCMP.out _).mono ?_; rintro e w' ⟨rfl, rfl⟩))
      all_goals
        have hs2 := ((HS.out.alloc (⟨xk, xi, xs, xf⟩ : V).obj).alloc (⟨yk, yi, ys, yf⟩ : V).obj).drew
        have HS2 := Lib.hid hs2; clear hs2 HS HCMP
        by_cases hz : c = 0
        · have hr := HD.out
          rw [if_neg (by simpa using hz)] at hr
          have HR2 := Lib.hid (HR.out.trans hr)
          clear hr HD HR
          go_wp2_with fail
          go_roundg (gk - 1)
          case measure => omega
          case rel => exact ⟨j + 1, by omega, by go_num, by omega, HR2.out, HS2.out⟩
        · have hr := HD.out
          rw [if_pos hz] at hr
          have HR2 := Lib.hid (HR.out.trans hr)
          clear hr HD HR
          go_wp2_with fail
          go_ret
          exact ⟨ret_i64 HR2.out.symm, HS2.out⟩
    · have he := rowsV_end (by omega) hjb hboth
      rw [← HR.out] at he
      by_cases hl : A.length = B.length
      · rw [if_pos hl] at he
        have HE := Lib.hid he; clear he HC GC HOK GOK HR
        obtain rfl : j = A.length := by omega
        clear hboth hj hjb
        have hl2 : (A.length : Int) = B.length := by omega
        go_wp2_with fail
        go_ret
        exact ⟨ret_i64 HE.out.symm, HS.out⟩
      · rw [if_neg hl] at he
        have HE := Lib.hid he; clear he HC GC HOK GOK HR
        have hl2 : ¬ (A.length : Int) = B.length := by omega
        have hb2 : ((A.length : Int) == (B.length : Int)) = false := by simp; omega
        have hd2 : decide ((A.length : Int) < (B.length : Int)) = decide (A.length < B.length) := by simp
        by_cases hja : (j : Int) < A.length
        · have hjb2 : ¬ (j : Int) < B.length := by omega
          go_wp2_with fail
          refine (sign_any _ _).mono ?_
          rintro e w' ⟨rfl, rfl⟩
          go_wp2_with fail
          go_ret
          exact ⟨ret_i64 (by rw [HE.out]), HS.out⟩
        · go_wp2_with fail
          refine (sign_any _ _).mono ?_
          rintro e w' ⟨rfl, rfl⟩
          go_wp2_with fail
          go_ret
          exact ⟨ret_i64 (by rw [HE.out]), HS.out⟩

theorem vals_any {w : World} {v u : Value} {A B : List V} (h : ReadV w v A) (g : ReadV w u B) (hok : ∀ x ∈ A, x.ok) (gok : ∀ x ∈ B, x.ok) (hn : A.length ≤ maxLen) (gn : B.length ≤ maxLen) :
    Calls Try.prog 14 #[v, u] w fun e w' => e = .returned (.bool (decide (A.length = B.length) && decide (rowsV A B = 0))) ∧ Same (fun _ => False) w w' := by
  have h0 := h
  have g0 := g
  obtain ⟨ao, cap, rfl, _⟩ := h
  obtain ⟨bo, dap, rfl, _⟩ := g
  have HR := Lib.hid (rows_any h0 g0 hok gok hn gn)
  clear h0 g0
  unfold maxLen at hn gn
  go_enter Try.func14, Try.ntmps14
  by_cases hl : (A.length : Int) = B.length
  · have hl2 : A.length = B.length := by omega
    have HL := Lib.hid hl2; clear hl2
    go_wp2_with fail
    refine HR.out.mono ?_
    rintro e w1 ⟨rfl, hs⟩
    have HS := Lib.hid hs; clear hs
    go_wp2_with fail
    go_ret
    exact ⟨ret_bool (by rw [decide_eq_true HL.out]; rw [Bool.eq_iff_iff]; simp), HS.out⟩
  · have hl2 : ¬ A.length = B.length := by omega
    have HL := Lib.hid hl2; clear hl2
    go_wp2_with fail
    go_ret
    exact ⟨ret_bool (by rw [decide_eq_false HL.out]; rfl), Same.refl _ _⟩

end Go.Proofs.Ytmdkfbbagjcboaa
