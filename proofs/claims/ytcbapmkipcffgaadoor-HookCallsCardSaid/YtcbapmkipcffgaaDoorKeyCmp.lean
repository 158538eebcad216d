/-
  value.Compare, value.Rows, key.Order: what they tell. Conditions: values that a Go value can be.
-/
import Derived.Test.YtcbapmkipcffgaaDoorKeyAny
import Derived.Test.YtcbapmkipcffgaaDoorCompare
import Derived.Lib.Bytealg
namespace Go.Proofs.YtcbapmkipcffgaaDoor
open Go.RowKit Go.Extern.Stop Go.Stop Go.Extern Go.Lib
set_option maxRecDepth 1000000

theorem ccmp_i64 (m n : Int) (w : World) : Calls Tryd.prog 76 #[.int .i64 m, .int .i64 n] w fun e w' => e = .returned (.int .i64 (cmpI m n)) ∧ w = w' := by
  go_enter Tryd.func76, Tryd.ntmps76
  by_cases h1 : m < n
  · go_wp2
    go_ret
    exact ⟨ret_i64 (by unfold cmpI; split <;> (try split) <;> omega), rfl⟩
  · by_cases h2 : n < m
    · go_wp2
      go_ret
      exact ⟨ret_i64 (by unfold cmpI; split <;> (try split) <;> omega), rfl⟩
    · go_wp2
      go_ret
      exact ⟨ret_i64 (by unfold cmpI; split <;> (try split) <;> omega), rfl⟩

theorem ccmp_u64 (m n : Int) (w : World) : Calls Tryd.prog 101 #[.int .u64 m, .int .u64 n] w fun e w' => e = .returned (.int .i64 (cmpI m n)) ∧ w = w' := by
  go_enter Tryd.func101, Tryd.ntmps101
  by_cases h1 : m < n
  · go_wp2
    go_ret
    exact ⟨ret_i64 (by unfold cmpI; split <;> (try split) <;> omega), rfl⟩
  · by_cases h2 : n < m
    · go_wp2
      go_ret
      exact ⟨ret_i64 (by unfold cmpI; split <;> (try split) <;> omega), rfl⟩
    · go_wp2
      go_ret
      exact ⟨ret_i64 (by unfold cmpI; split <;> (try split) <;> omega), rfl⟩

theorem cmp_call (a b : ByteArray) (w : World) : (callFunc 102 #[.string a, .string b]).run Tryd.prog w = .ok (.value (.int .i64 (Lib.compareBytes a.data.toList b.data.toList))) w := by
  rw [← Lib.cmp_eq]
  kernel_rfl

theorem scompare_any (a b : ByteArray) (w : World) : Calls Tryd.prog 98 #[.string a, .string b] w fun e w' => e = .returned (.int .i64 (Lib.compareBytes a.data.toList b.data.toList)) ∧ w = w' := by
  have hc : Calls Tryd.prog 100 #[.string a, .string b] w fun e w' => e = .returned (.int .i64 (Lib.compareBytes a.data.toList b.data.toList)) ∧ w = w' := by
    have hb := cmp_call a b w
    go_enter Tryd.func100, Tryd.ntmps100
    go_wp2_with fail
    go_ret
    exact ⟨rfl, rfl⟩
  have HC := Lib.hid hc
  clear hc
  go_enter Tryd.func98, Tryd.ntmps98
  go_wp2_with fail
  refine HC.out.mono ?_
  rintro e w' ⟨rfl, rfl⟩
  go_wp2_with fail
  go_ret
  exact ⟨rfl, rfl⟩

theorem cb_eq : ∀ a b : List UInt8, Lib.compareBytes a b = if a = b then 0 else sgn (Op.bytesLess a b)
  | [], [] => rfl
  | [], _ :: _ => rfl
  | _ :: _, [] => rfl
  | x :: a, y :: b => by
    unfold Lib.compareBytes Op.bytesLess
    by_cases h1 : x < y
    · have hne : x ≠ y := fun e => by subst e; exact absurd h1 (UInt8.lt_irrefl x)
      rw [if_pos h1, if_neg (by simp [hne]), decide_eq_true h1]
      rfl
    · by_cases h2 : y < x
      · have hne : x ≠ y := fun e => by subst e; exact absurd h2 (UInt8.lt_irrefl x)
        rw [if_neg h1, if_pos h2, if_neg (by simp [hne]), decide_eq_false h1]
        simp [hne, sgn]
      · have he : x = y := by
          rw [UInt8.lt_iff_toNat_lt] at h1 h2
          exact UInt8.toNat_inj.1 (by omega)
        subst he
        rw [if_neg h1, if_neg h1, cb_eq a b, decide_eq_false h1]
        simp

theorem bcompare_any (f g : Nat) (hf : f < 18446744073709551616) (hg : g < 18446744073709551616) (w : World) :
    Calls Tryd.prog 99 #[.float .f64 f, .float .f64 g] w fun e w' => e = .returned (.int .i64 (cmpI (ord f) (ord g))) ∧ w = w' := by
  have H1 := Lib.hid (order_any f hf w); have H2 := Lib.hid (order_any g hg w)
  go_enter Tryd.func99, Tryd.ntmps99
  go_wp2_with fail
  refine H1.out.mono ?_
  rintro e w' ⟨rfl, rfl⟩
  go_wp2_with fail
  refine H2.out.mono ?_
  rintro e w' ⟨rfl, rfl⟩
  go_wp2_with fail
  refine (ccmp_u64 _ _ _).mono ?_
  rintro e w' ⟨rfl, rfl⟩
  go_wp2_with fail
  go_ret
  exact ⟨rfl, rfl⟩

/-- The first that is not nought. -/
def orI : List Int → Int
  | [] => 0
  | x :: l => if x ≠ 0 then x else orI l

theorem or_any {w : World} {q cap : Nat} {ns : List Int} (hc : ∀ j x, ns[j]? = some x → w.cell? ⟨q, j, none⟩ = some (.int .i64 x)) (hn : ns.length ≤ 100) :
    Calls Tryd.prog 74 #[.slice (some ⟨q, 0, none⟩) ns.length cap] w fun e w' => e = .returned (.int .i64 (orI ns)) ∧ w = w' := by
  have HC := Lib.hid hc
  clear hc
  go_enter Tryd.func74, Tryd.ntmps74
  go_wp2_with fail
  go_loopg [8] ns.length (fun r i wr => ∃ k : Nat, k + r = ns.length ∧ i = .int .i64 k ∧ orI (ns.drop k) = orI ns ∧ w = wr)
  case atStart => exact ⟨0, by omega, rfl, rfl, rfl⟩
  case round =>
    obtain ⟨k, hk, rfl, ho, rfl⟩ := hrel
    have HO := Lib.hid ho
    clear ho
    by_cases hlt : k < ns.length
    · have hlt' : (k : Int) < (ns.length : Int) := by omega
      have hcx := HC.out k ns[k] (List.getElem?_eq_getElem hlt)
      have HD := Lib.hid (show orI (ns.drop k) = if ns[k] ≠ 0 then ns[k] else orI (ns.drop (k + 1)) by rw [List.drop_eq_getElem_cons hlt]; rfl)
      generalize ns[k] = x at *
      by_cases hx : x = 0
      · subst hx
        have HN := Lib.hid (show orI (ns.drop (k + 1)) = orI ns by rw [← HO.out, HD.out, if_neg (by simp)])
        go_wp2_with fail
        go_roundg (gk - 1)
        case measure => omega
        case rel => exact ⟨k + 1, by omega, by go_num, HN.out, rfl⟩
      · have hxb : (x == 0) = false := by simpa using hx
        have HN := Lib.hid (show x = orI ns by rw [← HO.out, HD.out, if_pos hx])
        go_wp2_with fail
        go_ret
        exact ⟨ret_i64 HN.out, rfl⟩
    · obtain rfl : k = ns.length := by omega
      have HN := Lib.hid (show (0 : Int) = orI ns by rw [← HO.out, List.drop_length]; rfl)
      clear hk hlt
      go_wp2_with fail
      go_ret
      exact ⟨ret_i64 HN.out, rfl⟩

abbrev fourObj (a b c d : Int) : Obj := .cells #[.int .i64 a, .int .i64 b, .int .i64 c, .int .i64 d] 3
abbrev pairObj (a b : Int) : Obj := .cells #[.int .i64 a, .int .i64 b] 3

theorem or_four {w : World} {q cap : Nat} {a b c d : Int} (h : w.heap[q]? = some (fourObj a b c d)) :
    Calls Tryd.prog 74 #[.slice (some ⟨q, 0, none⟩) 4 cap] w fun e w' => e = .returned (.int .i64 (orI [a, b, c, d])) ∧ w = w' := by
  refine or_any (ns := [a, b, c, d]) (fun j x hj => ?_) (by simp)
  match j, hj with
  | 0, hj => cases hj; simp [World.cell?, h]
  | 1, hj => cases hj; simp [World.cell?, h]
  | 2, hj => cases hj; simp [World.cell?, h]
  | 3, hj => cases hj; simp [World.cell?, h]
  | j + 4, hj => simp at hj

theorem or_two {w : World} {q cap : Nat} {a b : Int} (h : w.heap[q]? = some (pairObj a b)) :
    Calls Tryd.prog 74 #[.slice (some ⟨q, 0, none⟩) 2 cap] w fun e w' => e = .returned (.int .i64 (orI [a, b])) ∧ w = w' := by
  refine or_any (ns := [a, b]) (fun j x hj => ?_) (by simp)
  match j, hj with
  | 0, hj => cases hj; simp [World.cell?, h]
  | 1, hj => cases hj; simp [World.cell?, h]
  | j + 2, hj => simp at hj

theorem cmpI_sgn (m n : Int) : cmpI m n = if m = n then 0 else sgn (decide (m < n)) := by
  unfold cmpI sgn
  split
  · rw [if_neg (by omega), decide_eq_true (by omega)]; rfl
  · split
    · rw [if_neg (by omega), decide_eq_false (by omega)]; rfl
    · rw [if_pos (by omega)]

theorem cmpV_or (x y : V) : orI [cmpI x.k y.k, cmpI x.i y.i, Lib.compareBytes x.s.data.toList y.s.data.toList, cmpI (ord x.f) (ord y.f)] = cmpV x y := by
  unfold cmpV
  by_cases h1 : x.k = y.k
  · rw [if_neg (by simp [h1])]
    have e1 : cmpI x.k y.k = 0 := by rw [cmpI_sgn, if_pos h1]
    by_cases h2 : x.i = y.i
    · rw [if_neg (by simp [h2])]
      have e2 : cmpI x.i y.i = 0 := by rw [cmpI_sgn, if_pos h2]
      by_cases h3 : x.s = y.s
      · rw [if_neg (by simp [h3])]
        have e3 : Lib.compareBytes x.s.data.toList y.s.data.toList = 0 := by rw [cb_eq, if_pos (by rw [h3])]
        have e4 : cmpI (ord x.f) (ord y.f) = cmpF x.f y.f := by
          unfold cmpI cmpF
          split
          · rw [if_pos (by omega)]
          · split
            · rw [if_neg (by omega), if_pos (by omega)]
            · rw [if_neg (by omega), if_neg (by omega)]
        simp only [orI, e1, e2, e3, e4]
        by_cases h4 : cmpF x.f y.f = 0
        · simp [h4]
        · simp [h4]
      · rw [if_pos h3]
        have hne : x.s.data.toList ≠ y.s.data.toList := fun e => h3 (ByteArray.ext (by simpa using congrArg List.toArray e))
        have e3 : Lib.compareBytes x.s.data.toList y.s.data.toList = sgn (Op.bytesLess x.s.toList y.s.toList) := by
          rw [cb_eq, if_neg hne, Go.ByteArray.toList_eq, Go.ByteArray.toList_eq]
        simp only [orI, e1, e2, e3]
        simp [sgn_ne]
    · rw [if_pos h2]
      have e2 : cmpI x.i y.i = sgn (decide (x.i < y.i)) := by rw [cmpI_sgn, if_neg h2]
      simp only [orI, e1, e2]
      simp [sgn_ne]
  · rw [if_pos h1]
    have e1 : cmpI x.k y.k = sgn (decide (x.k < y.k)) := by rw [cmpI_sgn, if_neg h1]
    simp only [orI, e1]
    simp [sgn_ne]

theorem obj8 {w w' : World} {p q : Nat} {x y : V} (hx : w.heap[p]? = some x.obj) (hy : w.heap[q]? = some y.obj) (h : Same (fun _ => False) w w') :
    w'.cell? ⟨p, 0, none⟩ = some (.int .i64 x.k) ∧ w'.cell? ⟨p, 1, none⟩ = some (.int .i64 x.i) ∧ w'.cell? ⟨p, 2, none⟩ = some (.string x.s) ∧ w'.cell? ⟨p, 3, none⟩ = some (.float .f64 x.f) ∧
    w'.cell? ⟨q, 0, none⟩ = some (.int .i64 y.k) ∧ w'.cell? ⟨q, 1, none⟩ = some (.int .i64 y.i) ∧ w'.cell? ⟨q, 2, none⟩ = some (.string y.s) ∧ w'.cell? ⟨q, 3, none⟩ = some (.float .f64 y.f) := by
  obtain ⟨a, b, c, d⟩ := obj_cells (h.obj hx id)
  obtain ⟨a', b', c', d'⟩ := obj_cells (h.obj hy id)
  exact ⟨a, b, c, d, a', b', c', d'⟩

set_option maxHeartbeats 8000000 in
theorem vcompare_any (x y : V) (hx : x.ok) (hy : y.ok) (w : World) :
    Calls Tryd.prog 93 #[x.val, y.val] w fun e w' => e = .returned (.int .i64 (cmpV x y)) ∧ Same (fun _ => False) w w' := by
  have hs := ((Same.refl (fun _ => False) w).alloc x.obj).alloc y.obj
  have hX : ((w.alloc x.obj).alloc y.obj).heap[w.heap.size]? = some x.obj := ((Same.refl (fun _ => False) (w.alloc x.obj)).alloc y.obj).obj (heap_alloc_new w x.obj) id
  have hY : ((w.alloc x.obj).alloc y.obj).heap[w.heap.size + 1]? = some y.obj := by
    have h := heap_alloc_new (w.alloc x.obj) y.obj
    rwa [show (w.alloc x.obj).heap.size = w.heap.size + 1 by simp] at h
  have hf := hx.f1
  have hg := hy.f1
  have HCV := Lib.hid (cmpV_or x y)
  have HS := Lib.hid hs; have HX := Lib.hid hX; have HY := Lib.hid hY
  obtain ⟨k, i, s, f⟩ := x
  obtain ⟨l, j, t, g⟩ := y
  simp only at hf hg
  clear hx hy hs hX hY
  go_enter Tryd.func93, Tryd.ntmps93
  go_upto_region 1 with fail
  generalize hW : (w.alloc (V.obj ⟨k, i, s, f⟩)).alloc (V.obj ⟨l, j, t, g⟩) = W at *
  have hW2 : (w.alloc (.cells #[.int .i64 k, .int .i64 i, .string s, .float .f64 f] 38)).alloc (.cells #[.int .i64 l, .int .i64 j, .string t, .float .f64 g] 38) = W := hW
  try rw [hW2]
  clear hW hW2
  go_region_held3 (fun w' => w'.cell? ⟨w.heap.size, 0, none⟩ = some (.int .i64 k) ∧ w'.cell? ⟨w.heap.size, 1, none⟩ = some (.int .i64 i) ∧ w'.cell? ⟨w.heap.size, 2, none⟩ = some (.string s) ∧ w'.cell? ⟨w.heap.size, 3, none⟩ = some (.float .f64 f) ∧
      w'.cell? ⟨w.heap.size + 1, 0, none⟩ = some (.int .i64 l) ∧ w'.cell? ⟨w.heap.size + 1, 1, none⟩ = some (.int .i64 j) ∧ w'.cell? ⟨w.heap.size + 1, 2, none⟩ = some (.string t) ∧ w'.cell? ⟨w.heap.size + 1, 3, none⟩ = some (.float .f64 g))
    ((refine obj8 HX.out HY.out ?_; repeat (first | with_reducible assumption | exact Same.refl _ _ | refine Same.drew ?_ | refine Same.alloc ?_ _)))
    (first
      | (go_at_call 79; refine (ccmp_int _ _ _).mono ?_; rintro e w' ⟨rfl, rfl⟩)
      | (go_at_call 76; refine (ccmp_i64 _ _ _).mono ?_; rintro e w' ⟨rfl, rfl⟩)
      | (go_at_call 98; refine (scompare_any _ _ _).mono ?_; rintro e w' ⟨rfl, rfl⟩)
      | (go_at_call 99; refine (bcompare_any _ _ hf hg _).mono ?_; rintro e w' ⟨rfl, rfl⟩)
      | (go_at_call 74; refine (or_four (by first | exact heap_alloc_new _ _ | exact (heap_alloc_new W _ :))).mono ?_; rintro e w' ⟨rfl, rfl⟩))
  go_wp2_with fail
  go_ret
  exact ⟨ret_i64 HCV.out, (HS.out.alloc _).drew⟩

set_option maxHeartbeats 8000000 in
theorem vrows_any {w : World} {v u : Value} {A B : List V} (h : ReadV w v A) (g : ReadV w u B) (hok : ∀ x ∈ A, x.ok) (gok : ∀ x ∈ B, x.ok) (hn : A.length ≤ maxLen) (gn : B.length ≤ maxLen) :
    Calls Tryd.prog 75 #[v, u] w fun e w' => e = .returned (.int .i64 (rowsV A B)) ∧ Same (fun _ => False) w w' := by
  obtain ⟨ao, cap, rfl⟩ := readV_len h
  obtain ⟨bo, dap, rfl⟩ := readV_len g
  have HC := Lib.hid h; have HOK := Lib.hid hok; have GC := Lib.hid g; have GOK := Lib.hid gok
  unfold maxLen at hn gn
  clear h g hok gok
  go_enter Tryd.func75, Tryd.ntmps75
  by_cases hBA : B.length < A.length
  · have hBA' : (B.length : Int) < (A.length : Int) := by omega
    have hM1 : B.length ≤ A.length := by omega
    have hM2 : B.length ≤ B.length := by omega
    go_wp2_with fail
    go_loopg [12] B.length (fun r i wr => ∃ j : Nat, j + r = B.length ∧ i = .int .i64 j ∧ rowsV A B = rowsV (A.drop j) (B.drop j) ∧ Same (fun _ => False) w wr)
    case atStart => exact ⟨0, by omega, rfl, rfl, Same.refl _ _⟩
    case round =>
      obtain ⟨j, hj, rfl, hr, hs⟩ := hrel
      have HR := Lib.hid hr; have HS := Lib.hid hs
      by_cases hlt : j < B.length
      · have hlt' : (j : Int) < (B.length : Int) := by omega
        have hja : (j : Int) < (A.length : Int) := by omega
        have hjb : (j : Int) < (B.length : Int) := by omega
        obtain ⟨⟨xk, xi, xs, xf⟩, hx⟩ : ∃ x, A[j]? = some x := ⟨A[j]'(by omega), List.getElem?_eq_getElem (by omega)⟩
        obtain ⟨⟨yk, yi, ys, yf⟩, hy⟩ : ∃ y, B[j]? = some y := ⟨B[j]'(by omega), List.getElem?_eq_getElem (by omega)⟩
        have hca := HC.out.same hs
        have hcb := GC.out.same hs
        obtain ⟨ao', cap', e1, hca⟩ := hca
        cases e1
        obtain ⟨bo', dap', e1, hcb⟩ := hcb
        cases e1
        obtain ⟨b, off, rfl, hb, a0, a1, a2, a3⟩ := hca j _ hx
        obtain ⟨b', off', rfl, hb', z0, z1, z2, z3⟩ := hcb j _ hy
        simp only at a0 a1 a2 a3 z0 z1 z2 z3
        have hcmp := vcompare_any ⟨xk, xi, xs, xf⟩ ⟨yk, yi, ys, yf⟩ (HOK.out _ (List.mem_of_getElem? hx)) (GOK.out _ (List.mem_of_getElem? hy))
        have hd := rowsV_drop hx hy
        obtain ⟨c, hc⟩ : ∃ c, c = cmpV ⟨xk, xi, xs, xf⟩ ⟨yk, yi, ys, yf⟩ := ⟨_, rfl⟩
        rw [← hc] at hcmp hd
        have HCMP := Lib.hid hcmp; have HD := Lib.hid hd
        clear hx hy hcmp hd hc hca hcb hr hs
        go_upto_region 4 with fail
        go_region_held3 (fun w' => w'.cell? ⟨b, off + j * 4, none⟩ = some (.int .i64 xk) ∧ w'.cell? ⟨b, off + j * 4 + 1, none⟩ = some (.int .i64 xi) ∧ w'.cell? ⟨b, off + j * 4 + 2, none⟩ = some (.string xs) ∧ w'.cell? ⟨b, off + j * 4 + 3, none⟩ = some (.float .f64 xf) ∧
            w'.cell? ⟨b', off' + j * 4, none⟩ = some (.int .i64 yk) ∧ w'.cell? ⟨b', off' + j * 4 + 1, none⟩ = some (.int .i64 yi) ∧ w'.cell? ⟨b', off' + j * 4 + 2, none⟩ = some (.string ys) ∧ w'.cell? ⟨b', off' + j * 4 + 3, none⟩ = some (.float .f64 yf))
          (first | with_reducible exact ⟨j0, j1, j2, j3, k0, k1, k2, k3⟩ | exact ⟨a0, a1, a2, a3, z0, z1, z2, z3⟩)
          (first | (go_at_call 93; refine (HCMP.out _).mono ?_; rintro e w' ⟨rfl, hs'⟩; have hs2 : Same (fun _ => False) wr w' := Same.trans ((Same.refl _ _).drew) hs' (fun _ _ h => h); have j0 := ocell hs2 a0 id; have j1 := ocell hs2 a1 id; have j2 := ocell hs2 a2 id; have j3 := ocell hs2 a3 id; have k0 := ocell hs2 z0 id; have k1 := ocell hs2 z1 id; have k2 := ocell hs2 z2 id; have k3 := ocell hs2 z3 id))
        have HS2 := Lib.hid (HS.out.trans hs2 (fun _ _ h => h))
        clear hs2 hs' j0 j1 j2 j3 k0 k1 k2 k3 a0 a1 a2 a3 z0 z1 z2 z3 HCMP
        by_cases hz : c = 0
        · have hr := HD.out
          rw [if_neg (by simpa using hz)] at hr
          have HR2 := Lib.hid (HR.out.trans hr)
          clear hr HD HR
          go_wp2_with fail
          go_roundg (gk - 1)
          case measure => omega
          case rel => exact ⟨j + 1, by omega, by go_num, HR2.out, HS2.out⟩
        · have hr := HD.out
          rw [if_pos hz] at hr
          have hzb : (c == 0) = false := by simpa using hz
          have HR2 := Lib.hid (HR.out.trans hr)
          clear hr HD HR
          go_wp2_with fail
          go_ret
          exact ⟨ret_i64 HR2.out.symm, HS2.out⟩
      · obtain rfl : j = B.length := by omega
        have he := rowsV_end hM1 hM2 (by omega)
        rw [← HR.out] at he
        have HE := Lib.hid (show cmpI (A.length : Int) (B.length : Int) = rowsV A B by
          rw [he, cmpI_sgn]
          by_cases h : A.length = B.length
          · rw [if_pos h, if_pos (by omega)]
          · rw [if_neg h, if_neg (by omega)]
            congr 1
            simp)
        clear he hr hs hlt hj HR
        go_wp2_with fail
        refine (ccmp_int _ _ _).mono ?_
        rintro e w' ⟨rfl, rfl⟩
        go_wp2_with fail
        go_ret
        exact ⟨ret_i64 HE.out, HS.out⟩
  · have hBA' : ¬ (B.length : Int) < (A.length : Int) := by omega
    have hM1 : A.length ≤ A.length := by omega
    have hM2 : A.length ≤ B.length := by omega
    go_wp2_with fail
    go_loopg [12] A.length (fun r i wr => ∃ j : Nat, j + r = A.length ∧ i = .int .i64 j ∧ rowsV A B = rowsV (A.drop j) (B.drop j) ∧ Same (fun _ => False) w wr)
    case atStart => exact ⟨0, by omega, rfl, rfl, Same.refl _ _⟩
    case round =>
      obtain ⟨j, hj, rfl, hr, hs⟩ := hrel
      have HR := Lib.hid hr; have HS := Lib.hid hs
      by_cases hlt : j < A.length
      · have hlt' : (j : Int) < (A.length : Int) := by omega
        have hja : (j : Int) < (A.length : Int) := by omega
        have hjb : (j : Int) < (B.length : Int) := by omega
        obtain ⟨⟨xk, xi, xs, xf⟩, hx⟩ : ∃ x, A[j]? = some x := ⟨A[j]'(by omega), List.getElem?_eq_getElem (by omega)⟩
        obtain ⟨⟨yk, yi, ys, yf⟩, hy⟩ : ∃ y, B[j]? = some y := ⟨B[j]'(by omega), List.getElem?_eq_getElem (by omega)⟩
        have hca := HC.out.same hs
        have hcb := GC.out.same hs
        obtain ⟨ao', cap', e1, hca⟩ := hca
        cases e1
        obtain ⟨bo', dap', e1, hcb⟩ := hcb
        cases e1
        obtain ⟨b, off, rfl, hb, a0, a1, a2, a3⟩ := hca j _ hx
        obtain ⟨b', off', rfl, hb', z0, z1, z2, z3⟩ := hcb j _ hy
        simp only at a0 a1 a2 a3 z0 z1 z2 z3
        have hcmp := vcompare_any ⟨xk, xi, xs, xf⟩ ⟨yk, yi, ys, yf⟩ (HOK.out _ (List.mem_of_getElem? hx)) (GOK.out _ (List.mem_of_getElem? hy))
        have hd := rowsV_drop hx hy
        obtain ⟨c, hc⟩ : ∃ c, c = cmpV ⟨xk, xi, xs, xf⟩ ⟨yk, yi, ys, yf⟩ := ⟨_, rfl⟩
        rw [← hc] at hcmp hd
        have HCMP := Lib.hid hcmp; have HD := Lib.hid hd
        clear hx hy hcmp hd hc hca hcb hr hs
        go_upto_region 4 with fail
        go_region_held3 (fun w' => w'.cell? ⟨b, off + j * 4, none⟩ = some (.int .i64 xk) ∧ w'.cell? ⟨b, off + j * 4 + 1, none⟩ = some (.int .i64 xi) ∧ w'.cell? ⟨b, off + j * 4 + 2, none⟩ = some (.string xs) ∧ w'.cell? ⟨b, off + j * 4 + 3, none⟩ = some (.float .f64 xf) ∧
            w'.cell? ⟨b', off' + j * 4, none⟩ = some (.int .i64 yk) ∧ w'.cell? ⟨b', off' + j * 4 + 1, none⟩ = some (.int .i64 yi) ∧ w'.cell? ⟨b', off' + j * 4 + 2, none⟩ = some (.string ys) ∧ w'.cell? ⟨b', off' + j * 4 + 3, none⟩ = some (.float .f64 yf))
          (first | with_reducible exact ⟨j0, j1, j2, j3, k0, k1, k2, k3⟩ | exact ⟨a0, a1, a2, a3, z0, z1, z2, z3⟩)
          (first | (go_at_call 93; refine (HCMP.out _).mono ?_; rintro e w' ⟨rfl, hs'⟩; have hs2 : Same (fun _ => False) wr w' := Same.trans ((Same.refl _ _).drew) hs' (fun _ _ h => h); have j0 := ocell hs2 a0 id; have j1 := ocell hs2 a1 id; have j2 := ocell hs2 a2 id; have j3 := ocell hs2 a3 id; have k0 := ocell hs2 z0 id; have k1 := ocell hs2 z1 id; have k2 := ocell hs2 z2 id; have k3 := ocell hs2 z3 id))
        have HS2 := Lib.hid (HS.out.trans hs2 (fun _ _ h => h))
        clear hs2 hs' j0 j1 j2 j3 k0 k1 k2 k3 a0 a1 a2 a3 z0 z1 z2 z3 HCMP
        by_cases hz : c = 0
        · have hr := HD.out
          rw [if_neg (by simpa using hz)] at hr
          have HR2 := Lib.hid (HR.out.trans hr)
          clear hr HD HR
          go_wp2_with fail
          go_roundg (gk - 1)
          case measure => omega
          case rel => exact ⟨j + 1, by omega, by go_num, HR2.out, HS2.out⟩
        · have hr := HD.out
          rw [if_pos hz] at hr
          have hzb : (c == 0) = false := by simpa using hz
          have HR2 := Lib.hid (HR.out.trans hr)
          clear hr HD HR
          go_wp2_with fail
          go_ret
          exact ⟨ret_i64 HR2.out.symm, HS2.out⟩
      · obtain rfl : j = A.length := by omega
        have he := rowsV_end hM1 hM2 (by omega)
        rw [← HR.out] at he
        have HE := Lib.hid (show cmpI (A.length : Int) (B.length : Int) = rowsV A B by
          rw [he, cmpI_sgn]
          by_cases h : A.length = B.length
          · rw [if_pos h, if_pos (by omega)]
          · rw [if_neg h, if_neg (by omega)]
            congr 1
            simp)
        clear he hr hs hlt hj HR
        go_wp2_with fail
        refine (ccmp_int _ _ _).mono ?_
        rintro e w' ⟨rfl, rfl⟩
        go_wp2_with fail
        go_ret
        exact ⟨ret_i64 HE.out, HS.out⟩

end Go.Proofs.YtcbapmkipcffgaaDoor
