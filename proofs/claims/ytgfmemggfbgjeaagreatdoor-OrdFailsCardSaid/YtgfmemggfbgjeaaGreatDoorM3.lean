/-
  Values, rows of values, what the document says of them: told of memory (the parts of package code's proofs that speak of no function of that package: put together by wip/tools/rows_gen.py). Conditions: none.
-/
import Derived.Test.YtgfmemggfbgjeaaGreatDoorM2
import Derived.Deep.RegionHeld3
import Derived.Deep.LoopGhost
import Derived.Deep.QuietTactic
import Derived.Deep.Slices
import Derived.ChangeArms
import Derived.ProofKit
import Derived.OpenShut
namespace Go.Proofs.YtgfmemggfbgjeaaGreatDoor
open Go.RowKit
set_option maxRecDepth 1000000

theorem Same.drew {F : Nat → Prop} {w w1 : World} (h : Same F w w1) : Same F w w1.drew := ⟨h.os, h.tape, h.output, h.size, h.block⟩

theorem shr63_low {n : Nat} (h : n < 9223372036854775808) : (n : Int) / 2 ^ 63 = 0 := by omega

theorem shr63_high {n : Nat} (h : ¬ n < 9223372036854775808) (h2 : n < 18446744073709551616) : (n : Int) / 2 ^ 63 = 1 := by omega

theorem rorder_any (f : Nat) (hf : f < 18446744073709551616) (w : World) :
    Calls Tryz.prog 76 #[.float .f64 f] w fun e w' => e = .returned (.int .u64 (ord f)) ∧ w = w' := by
  have hb := bits_call f w
  by_cases h : f < 9223372036854775808
  · have hand := shr63_low h
    have hor := bits_or_low h
    have HO := Lib.hid (ord_low h); have HR := Lib.hid hor
    clear hor
    go_enter Tryz.func76, Tryz.ntmps76
    go_wp2_with fail
    go_ret
    exact ⟨ret_u64 (by rw [HR.out, HO.out]), rfl⟩
  · have hand := shr63_high h hf
    have HO := Lib.hid (ord_high h); have HR := Lib.hid (bits_not hf)
    go_enter Tryz.func76, Tryz.ntmps76
    go_wp2_with fail
    go_ret
    exact ⟨ret_u64 (by rw [HR.out, HO.out]), rfl⟩

/-- Which of two floats stands ahead. -/
def cmpF (a b : Nat) : Int := if ord a < ord b then -1 else if ord b < ord a then 1 else 0

theorem ret_i64 {a b : Int} (h : a = b) : Ending.returned (.int .i64 a) = .returned (.int .i64 b) := by rw [h]

theorem rcompare_any (f g : Nat) (hf : f < 18446744073709551616) (hg : g < 18446744073709551616) (w : World) :
    Calls Tryz.prog 105 #[.float .f64 f, .float .f64 g] w fun e w' => e = .returned (.int .i64 (cmpF f g)) ∧ w = w' := by
  go_enter Tryz.func105, Tryz.ntmps105
  go_wp2_with fail
  refine (rorder_any f hf w).mono ?_
  rintro e w' ⟨rfl, rfl⟩
  go_wp2_with fail
  refine (rorder_any g hg w).mono ?_
  rintro e w' ⟨rfl, rfl⟩
  go_wp2_with fail
  all_goals
    go_ret
    exact ⟨ret_i64 (by unfold cmpF; first | rw [if_pos (by omega)] | rw [if_neg (by omega), if_pos (by omega)] | rw [if_neg (by omega), if_neg (by omega)]), rfl⟩

def sgn (b : Bool) : Int := if b then -1 else 1

theorem sign_any (b : Bool) (w : World) :
    Calls Tryz.prog 91 #[.bool b] w fun e w' => e = .returned (.int .i64 (sgn b)) ∧ w = w' := by
  go_enter Tryz.func91, Tryz.ntmps91
  cases b <;> go_wp2_with fail
  all_goals
    go_ret
    exact ⟨rfl, rfl⟩

/-- A slice of values that can be read. -/
def ReadV (w : World) (v : Value) (L : List V) : Prop :=
  ∃ ao cap, v = .slice ao L.length cap ∧ ∀ j x, L[j]? = some x → ∃ b off, ao = some ⟨b, off, none⟩ ∧ b < w.heap.size ∧
    w.cell? ⟨b, off + j * 4, none⟩ = some (.int .i64 x.k) ∧ w.cell? ⟨b, off + j * 4 + 1, none⟩ = some (.int .i64 x.i) ∧ w.cell? ⟨b, off + j * 4 + 2, none⟩ = some (.string x.s) ∧ w.cell? ⟨b, off + j * 4 + 3, none⟩ = some (.float .f64 x.f)

theorem obj_cells {w : World} {b : Nat} {x : V} (h : w.heap[b]? = some x.obj) :
    w.cell? ⟨b, 0, none⟩ = some (.int .i64 x.k) ∧ w.cell? ⟨b, 1, none⟩ = some (.int .i64 x.i) ∧ w.cell? ⟨b, 2, none⟩ = some (.string x.s) ∧ w.cell? ⟨b, 3, none⟩ = some (.float .f64 x.f) := by
  simp [World.cell?, h]

theorem isV_kinds {x : V} (h : isV x = true) : x.k = 1 ∨ x.k = 2 ∨ x.k = 3 ∨ x.k = 4 ∨ x.k = 5 := by
  unfold isV at h
  split at h
  · omega
  · split at h
    · omega
    · split at h
      · omega
      · split at h
        · omega
        · cases h

theorem size_of_empty {s : ByteArray} (h : s.toList = []) : s.size = 0 := by
  rw [Go.ByteArray.toList_eq] at h
  have := congrArg List.length h
  simpa using this

theorem isV_size {x : V} (h : isV x = true) : x.s.size ≤ 60 := by
  unfold isV at h
  split at h
  · simp at h
    have := size_of_empty h.1
    omega
  · split at h
    · simp at h
      have := size_of_empty h.1.2
      omega
    · split at h
      · simp at h
        omega
      · split at h
        · simp at h
          have := size_of_empty h.2
          omega
        · cases h

theorem isV_bool {x : V} (h : isV x = true) : x.k = 2 → x.i = 0 ∨ x.i = 1 := by
  intro hk
  simp [isV, hk] at h
  exact h.1.1

theorem ord_lt {f : Nat} (h : f < 18446744073709551616) : ord f < 18446744073709551616 := by
  unfold ord
  split <;> omega

theorem cmpF_lt (a b : Nat) : cmpF a b < 0 ↔ ord a < ord b := by
  unfold cmpF
  split
  · simp [*]
  · split <;> simp [*]

theorem cmpF_eq (a b : Nat) : cmpF a b = 0 ↔ ord a = ord b := by
  unfold cmpF
  split
  · simp; omega
  · split
    · simp; omega
    · simp; omega

theorem sgn_lt (b : Bool) : sgn b < 0 ↔ b = true := by cases b <;> simp [sgn]

theorem sgn_ne (b : Bool) : sgn b ≠ 0 := by cases b <;> simp [sgn]

/-- Which of two values stands ahead. -/
def cmpV (x y : V) : Int :=
  if x.k ≠ y.k then sgn (decide (x.k < y.k))
  else if x.i ≠ y.i then sgn (decide (x.i < y.i))
  else if x.s ≠ y.s then sgn (Op.bytesLess x.s.toList y.s.toList)
  else cmpF x.f y.f

theorem cmpF_same (f : Nat) : cmpF f f = 0 := (cmpF_eq f f).2 rfl

/-- Which of two rows stands ahead, value after value. -/
def rowsV : List V → List V → Int
  | [], [] => 0
  | [], _ :: _ => -1
  | _ :: _, [] => 1
  | x :: a, y :: b => if cmpV x y ≠ 0 then cmpV x y else rowsV a b

/-- What a row's values hold, cell after cell. -/
def vals (L : List V) : List Value := L.flatMap V.cells

theorem vals_snoc (L : List V) (x : V) : vals (L ++ [x]) = vals L ++ x.cells := by simp [vals]

theorem value_info : (Tryz.prog.info? 39).map (fun i => (i.zero, i.size, i.bytes)) = some (some (.agg #[.int .i64 0, .int .i64 0, .string ⟨#[]⟩, .float .f64 0]), 4, 40) := by kernel_rfl

/-- 'append(s, x...)' of nothing: s. -/
theorem run_append_none {P : Program} (w : World) (base : Nat) (t ty e : TypeId) (z : Value) (size bytes : Nat) (ht : P.underlying t = some (.slice e)) (hinfo : (P.info? e).map (fun i => (i.zero, i.size, i.bytes)) = some (some z, size, bytes))
    (v : Value) (n : Nat) (xs : List Value) (hown : w.ownsRow base e size v n xs) (c : Nat) : (Builtin.append_ #[t, t] ty #[v, .slice none 0 c]).run P w = .ok v w := by
  obtain ⟨i, hi, hz, rfl, rfl⟩ := info_parts hinfo
  rcases hown.2 with ⟨rfl, rfl⟩ | ⟨g, cap, cur, rfl, hbg, hg, hnc, hcm, hcs, htake⟩
  · simp [Builtin.append_, run_underlying ht, sizeOf, typeInfo, hi, Builtin.lenOf, Builtin.firstCells]
  · simp [Builtin.append_, run_underlying ht, sizeOf, typeInfo, hi, Builtin.lenOf, Builtin.firstCells, loadCells]
    rw [if_pos hnc]
    simp [storeCells]

theorem vals_get : ∀ (L : List V) (j : Nat) (u : Value), (vals L)[j]? = some u → ∃ x, L[j / 4]? = some x ∧ x.cells[j % 4]? = some u
  | [], j, u, h => by simp [vals] at h
  | x :: L, j, u, h => by
    have e : vals (x :: L) = x.cells ++ vals L := rfl
    have hc : x.cells.length = 4 := rfl
    rw [e] at h
    by_cases hj : j < 4
    · rw [List.getElem?_append_left (by omega)] at h
      refine ⟨x, ?_, ?_⟩
      · rw [show j / 4 = 0 by omega]; rfl
      · rw [show j % 4 = j by omega]; exact h
    · rw [List.getElem?_append_right (by omega), hc] at h
      obtain ⟨y, h1, h2⟩ := vals_get L (j - 4) u h
      refine ⟨y, ?_, ?_⟩
      · rw [show j / 4 = (j - 4) / 4 + 1 by omega]; exact h1
      · rw [show j % 4 = (j - 4) % 4 by omega]; exact h2

theorem vals_length (L : List V) : (vals L).length = L.length * 4 := by
  induction L with
  | nil => rfl
  | cons x L ih =>
    show (x.cells ++ vals L).length = _
    rw [List.length_append, ih, List.length_cons]
    show 4 + _ = _
    omega

theorem vals_one (L : List V) : ∀ u ∈ vals L, u.oneCell' = true := by
  intro u hu
  simp only [vals, List.mem_flatMap] at hu
  obtain ⟨x, _, hx⟩ := hu
  simp only [V.cells, List.mem_cons, List.not_mem_nil, or_false] at hx
  rcases hx with rfl | rfl | rfl | rfl <;> rfl

theorem ReadV.news {w : World} {b off n cap : Nat} {L : List V} (h : ReadV w (.slice (some ⟨b, off, none⟩) n cap) L) (j : Nat) (u : Value) (hj : (vals L)[j]? = some u) : w.cell? ((⟨b, off, none⟩ : Addr).add j) = some u := by
  obtain ⟨ao, cap', he, hc⟩ := h
  simp only [Value.slice.injEq] at he
  obtain ⟨rfl, _, rfl⟩ := he
  obtain ⟨x, hx, hu⟩ := vals_get L j u hj
  obtain ⟨b', off', e, _, e0, e1, e2, e3⟩ := hc _ x hx
  simp only [Option.some.injEq, Addr.mk.injEq, and_true] at e
  obtain ⟨rfl, rfl⟩ := e
  rw [Addr.add_lit]
  have hm : j % 4 < 4 := Nat.mod_lt _ (by omega)
  have hd : j / 4 * 4 + j % 4 = j := by omega
  match hk : j % 4, hm with
  | 0, _ =>
    rw [hk] at hu hd
    cases hu
    rw [show off + j = off + j / 4 * 4 by omega]; exact e0
  | 1, _ =>
    rw [hk] at hu hd
    cases hu
    rw [show off + j = off + j / 4 * 4 + 1 by omega]; exact e1
  | 2, _ =>
    rw [hk] at hu hd
    cases hu
    rw [show off + j = off + j / 4 * 4 + 2 by omega]; exact e2
  | 3, _ =>
    rw [hk] at hu hd
    cases hu
    rw [show off + j = off + j / 4 * 4 + 3 by omega]; exact e3

theorem wpList_wanted {P : Program} {ops : Array Oper} {Q : Exit → Act → World → Prop} {a : Act} {w : World} {rest : List Oper} {o : Oper} (hg : Region.wanted o (yielded ops a.tmps) = true)
    (h : ∀ K : Act → World → Prop, (∀ a w, wpList P ops Q rest a w → K a w) → o.wp P a w K Q) : wpList P ops Q (o :: rest) a w :=
  wpList_step fun K hK => by rw [if_pos hg]; exact h K hK

/-- An append of cells that are known, nothing among them: where the row then lies. -/
theorem run_append_row {P : Program} (w : World) (base : Nat) (t ty e : TypeId) (z : Value) (size bytes : Nat) (ht : P.underlying t = some (.slice e)) (hinfo : (P.info? e).map (fun i => (i.zero, i.size, i.bytes)) = some (some z, size, bytes))
    (hzs : z.cells.size = size) (hsz : 0 < size) (v : Value) (n : Nat) (xs : List Value) (hown : w.ownsRow base e size v n xs)
    (ad : Addr) (m c : Nat) (news : List Value) (hl : news.length = m * size) (hnews : ∀ j u, news[j]? = some u → w.cell? (ad.add j) = some u) (h1 : ∀ u ∈ news, u.oneCell' = true)
    (h63 : n + m ≤ maxLen) (hbytes : (n + m) * bytes ≤ 140737488355328) (hbase : base ≤ w.heap.size) :
    ∃ v' w', (Builtin.append_ #[t, t] ty #[v, .slice (some ad) m c]).run P w = .ok v' w' ∧ w'.ownsRow base e size v' (n + m) (xs ++ news) ∧ w.grownBy w' v.ownBlock ∧
      (∀ k, v'.ownBlock = some k → v.ownBlock = some k ∨ w.heap.size ≤ k) := by
  by_cases h0 : 0 < m
  · obtain ⟨g, cap, w', hr, h2, h3, h4⟩ := run_append_where (P := P) w base t ty e z size bytes ht hinfo hzs hsz v n xs hown ad m c news hl hnews h1 h0 h63 hbytes hbase
    refine ⟨_, w', hr, h2, h3, fun k hk => ?_⟩
    simp only [Value.ownBlock, Option.some.injEq] at hk
    subst hk
    exact h4.imp_right fun e => by omega
  · obtain rfl : m = 0 := by omega
    obtain ⟨i, hi, hz, hi1, hi2⟩ := info_parts hinfo
    obtain ⟨v', w', hr, h2, h3, h4⟩ := run_append_own (P := P) w base t ty e i z size bytes ht hi hz hi1 hi2 hzs hsz v n xs hown ad 0 c news hl hnews h1 h63 hbytes hbase
    refine ⟨v', w', hr, h2, h3, fun k hk => ?_⟩
    rcases hown.2 with ⟨rfl, rfl⟩ | ⟨g, cap, cur, rfl, hbg, hg, hnc, hcm, hcs, htake⟩
    · rw [h4.2 ⟨rfl, rfl⟩] at hk
      cases hk
    · have hfit : n * i.size + news.length ≤ cur.size := by rw [hl, hcs, hi1]; simpa using Nat.mul_le_mul_right _ hnc
      have hr2 := run_append_room (P := P) w t ty e i ht hi g n cap cur hg ad 0 c news (by rw [hi1]; exact hl) hnews h1 (by omega) hfit
      rw [hr] at hr2
      obtain ⟨rfl, _⟩ := Result.ok.inj hr2
      exact Or.inl hk

/-- 'append(s, x...)' of values that are read (the operation may be guarded). -/
theorem wpList_append_vals {ops : Array Oper} {Q : Exit → Act → World → Prop} {a : Act} {rest : List Oper} {o : Oper} (w : World) (hgd : Region.wanted o (yielded ops a.tmps) = true) (s x : Operand)
    (ho : o.op = .call { callee := .builtin .append, args := #[s, x], argTypes := #[34, 34] })
    (base : Nat) (v : Value) (n : Nat) (xs : List Value) (hs : a.eval s = v) (hown : w.ownsRow base 39 4 v n xs) (u : Value) (L : List V) (hx : a.eval x = u) (hr : ReadV w u L)
    (hb : n + L.length ≤ 1000000) (hbase : base ≤ w.heap.size)
    (h : ∀ v' w', w'.ownsRow base 39 4 v' (n + L.length) (xs ++ vals L) → Same (fun k => v.ownBlock = some k) w w' → (∀ k, v'.ownBlock = some k → v.ownBlock = some k ∨ w.heap.size ≤ k) →
      wpList Tryz.prog ops Q rest (a.put o.dst v') w') : wpList Tryz.prog ops Q (o :: rest) a w := by
  have hr0 := hr
  obtain ⟨ao, cap, rfl, hc⟩ := hr
  obtain ⟨v', w', hrun, h1, h2, h3⟩ : ∃ v' w', (Builtin.append_ #[34, 34] o.type #[v, .slice ao L.length cap]).run Tryz.prog w = .ok v' w' ∧ w'.ownsRow base 39 4 v' (n + L.length) (xs ++ vals L) ∧
      Same (fun k => v.ownBlock = some k) w w' ∧ (∀ k, v'.ownBlock = some k → v.ownBlock = some k ∨ w.heap.size ≤ k) := by
    cases ao with
    | none =>
      have hL : L = [] := by
        cases L with
        | nil => rfl
        | cons y L =>
          obtain ⟨_, _, e, _⟩ := hc 0 y rfl
          cases e
      subst hL
      exact ⟨v, w, run_append_none (P := Tryz.prog) w base 34 o.type 39 _ 4 40 Tryz.underlying34 value_info v n xs hown cap, by simpa [vals] using hown, Same.refl _ w, fun k hk => Or.inl hk⟩
    | some ad =>
      obtain ⟨v', w', e1, e2, e3, e4⟩ := run_append_row (P := Tryz.prog) w base 34 o.type 39 _ 4 40 Tryz.underlying34 value_info rfl (by decide) v n xs hown ad L.length cap (vals L) (vals_length L) (fun j u hj => by
        obtain ⟨x, hx', _⟩ := vals_get L j u hj
        obtain ⟨b', off', e, _⟩ := hc _ x hx'
        simp only [Option.some.injEq] at e
        subst e
        exact hr0.news j u hj) (vals_one L) (by unfold maxLen; omega) (by omega) hbase
      exact ⟨v', w', e1, e2, (Same.refl (fun k => v.ownBlock = some k) w).grown e3 (fun k hk _ => hk), e4⟩
  refine wpList_wanted hgd fun K hK => ?_
  unfold Oper.wp execOp
  simp only [ho, resolve, invoke, builtin, Sem.run_bind, Sem.run_pure, Result.andThen_ok, List.map_toArray, List.map_cons, List.map_nil, hs, hx, hrun]
  exact hK _ _ (h v' w' h1 h2 h3)

theorem vals_at : ∀ (L : List V) (j : Nat) (x : V) (k : Nat) (u : Value), L[j]? = some x → x.cells[k]? = some u → (vals L)[j * 4 + k]? = some u
  | [], j, x, k, u, h, _ => by simp at h
  | y :: L, 0, x, k, u, h, hu => by
    simp at h
    subst h
    have hk := (List.getElem?_eq_some_iff.1 hu).1
    show (y.cells ++ vals L)[0 * 4 + k]? = _
    rw [List.getElem?_append_left (by omega)]
    simpa using hu
  | y :: L, j + 1, x, k, u, h, hu => by
    have ih := vals_at L j x k u (by simpa using h) hu
    show (y.cells ++ vals L)[(j + 1) * 4 + k]? = _
    have hc : y.cells.length = 4 := rfl
    rw [List.getElem?_append_right (by omega), hc, show (j + 1) * 4 + k - 4 = j * 4 + k by omega]
    exact ih

theorem ReadV.own {w : World} {B : Nat} {v : Value} {L : List V} (h : w.ownsRow B 39 4 v L.length (vals L)) : ReadV w v L := by
  rcases h.2 with ⟨rfl, h0⟩ | ⟨g, cap, cur, rfl, hbg, hg, hnc, hcm, hcs, htake⟩
  · have : L = [] := List.eq_nil_of_length_eq_zero h0
    subst this
    exact ⟨none, 0, rfl, fun j x hj => by simp at hj⟩
  · refine ⟨some ⟨g, 0, none⟩, cap, rfl, fun j x hj => ?_⟩
    have hcell := fun k u hu => h.cells (g := g) rfl (j * 4 + k) u (vals_at L j x k u hj hu)
    have e0 := hcell 0 _ rfl
    have e1 := hcell 1 _ rfl
    have e2 := hcell 2 _ rfl
    have e3 := hcell 3 _ rfl
    rw [Addr.add_lit] at e0 e1 e2 e3
    exact ⟨g, 0, rfl, lt_of_block hg, e0, e1, e2, e3⟩

theorem ReadV.same {w w' : World} {v : Value} {L : List V} (h : ReadV w v L) (hs : Same (fun _ => False) w w') : ReadV w' v L := by
  obtain ⟨ao, cap, rfl, hc⟩ := h
  refine ⟨ao, cap, rfl, fun j x hj => ?_⟩
  obtain ⟨b, off, rfl, hb, e0, e1, e2, e3⟩ := hc j x hj
  have hblk := hs.block b hb id
  exact ⟨b, off, rfl, Nat.lt_of_lt_of_le hb hs.size, (World.cell?_of_block (a := ⟨b, _, none⟩) hblk).trans e0, (World.cell?_of_block (a := ⟨b, _, none⟩) hblk).trans e1,
    (World.cell?_of_block (a := ⟨b, _, none⟩) hblk).trans e2, (World.cell?_of_block (a := ⟨b, _, none⟩) hblk).trans e3⟩

def fewV (L : List V) : Bool := L.all fun x => decide (x.s.size ≤ 200)

theorem fewV_take (L : List V) (j : Nat) (x : V) (hj : L[j]? = some x) : fewV (L.take (j + 1)) = (fewV (L.take j) && decide (x.s.size ≤ 200)) := by
  have hlt := (List.getElem?_eq_some_iff.1 hj).1
  have hx := (List.getElem?_eq_some_iff.1 hj).2
  rw [List.take_succ_eq_append_getElem hlt, hx]
  simp [fewV]

theorem fewV_false (L : List V) (j : Nat) (x : V) (hj : L[j]? = some x) (h : ¬ x.s.size ≤ 200) : fewV L = false := by
  rw [Bool.eq_false_iff]
  intro hf
  simp only [fewV, List.all_eq_true, decide_eq_true_eq] at hf
  exact h (hf x (List.mem_of_getElem? hj))

theorem few_any {w : World} {v : Value} {L : List V} (h : ReadV w v L) (hok : ∀ x ∈ L, x.ok) (hn : L.length ≤ maxLen) (many : Int) :
    Calls Tryz.prog 25 #[v, .int .i64 many] w fun e w' => e = .returned (.bool (fewV L && decide ((L.length : Int) ≤ many))) ∧ w = w' := by
  obtain ⟨ao, cap, rfl, hc⟩ := h
  have HC := Lib.hid hc; have HOK := Lib.hid hok
  unfold maxLen at hn
  clear hc hok
  go_enter Tryz.func25, Tryz.ntmps25
  go_wp2_with fail
  go_loopg [5] L.length (fun r i wr => ∃ j : Nat, j + r = L.length ∧ i = .int .i64 j ∧ fewV (L.take j) = true ∧ wr = w)
  case atStart => exact ⟨0, by omega, rfl, rfl, rfl⟩
  case round =>
    obtain ⟨j, hj, rfl, hf, rfl⟩ := hrel
    have HF := Lib.hid hf; clear hf
    by_cases h0 : gk = 0
    · subst h0
      obtain rfl : j = L.length := by omega
      clear hj
      go_wp2_with fail
      go_ret
      exact ⟨ret_bool (by have := HF.out; rw [List.take_length] at this; rw [this, Bool.true_and]), rfl⟩
    · have hjl : j < L.length := by omega
      obtain ⟨x, hx⟩ : ∃ x, L[j]? = some x := ⟨L[j], List.getElem?_eq_getElem hjl⟩
      obtain ⟨b, off, rfl, hb, _, _, e2, _⟩ := HC.out j x hx
      have hxs := (HOK.out x (List.mem_of_getElem? hx)).s1
      unfold maxLen at hxs
      have HX := Lib.hid hx; clear hx
      by_cases hs : (x.s.size : Int) > 200
      · have hl : ¬ x.s.size ≤ 200 := by omega
        have HL := Lib.hid (fewV_false L j x HX.out hl); clear hl
        go_wp2_with fail
        go_ret
        exact ⟨ret_bool (by rw [HL.out, Bool.false_and]), rfl⟩
      · have hl : x.s.size ≤ 200 := by omega
        have HL := Lib.hid (fewV_take L j x HX.out)
        go_wp2_with fail
        go_roundg (gk - 1)
        case measure => omega
        case rel => exact ⟨j + 1, by omega, by go_num, by rw [HL.out, HF.out]; simp [hl], rfl⟩

theorem compare_any (x y : V) (hx : x.ok) (hy : y.ok) (w : World) :
    Calls Tryz.prog 90 #[x.val, y.val] w fun e w' => e = .returned (.int .i64 (cmpV x y)) ∧ w' = (w.alloc x.obj).alloc y.obj := by
  obtain ⟨k, i, s, f⟩ := x
  obtain ⟨l, j, t, g⟩ := y
  have hf := hx.f1
  have hg := hy.f1
  simp only at hf hg
  clear hx hy
  simp only [V.val, V.obj]
  by_cases hk : k = l
  · subst hk
    by_cases hi : i = j
    · subst hi
      by_cases hs : s = t
      · subst hs
        have hc : cmpV ⟨k, i, s, f⟩ ⟨k, i, s, g⟩ = cmpF f g := by simp [cmpV]
        have HC := Lib.hid hc; clear hc
        go_enter Tryz.func90, Tryz.ntmps90
        go_wp2_with fail
        refine (rcompare_any f g hf hg _).mono ?_
        rintro e w' ⟨rfl, rfl⟩
        go_wp2_with fail
        go_ret
        exact ⟨ret_i64 HC.out.symm, rfl⟩
      · have hst : (s.toList == t.toList) = false := by
          rw [beq_eq_false_iff_ne]
          intro h
          rw [Go.ByteArray.toList_eq, Go.ByteArray.toList_eq] at h
          exact hs (ByteArray.ext (by simpa using congrArg List.toArray h))
        have hc : cmpV ⟨k, i, s, f⟩ ⟨k, i, t, g⟩ = sgn (Op.bytesLess s.toList t.toList) := by simp [cmpV, hs]
        have HC := Lib.hid hc; clear hc hs
        go_enter Tryz.func90, Tryz.ntmps90
        go_wp2_with fail
        refine (sign_any _ _).mono ?_
        rintro e w' ⟨rfl, rfl⟩
        go_wp2_with fail
        go_ret
        exact ⟨ret_i64 HC.out.symm, rfl⟩
    · have hc : cmpV ⟨k, i, s, f⟩ ⟨k, j, t, g⟩ = sgn (decide (i < j)) := by simp [cmpV, hi]
      have HC := Lib.hid hc; clear hc
      go_enter Tryz.func90, Tryz.ntmps90
      go_wp2_with fail
      refine (sign_any _ _).mono ?_
      rintro e w' ⟨rfl, rfl⟩
      go_wp2_with fail
      go_ret
      exact ⟨ret_i64 HC.out.symm, rfl⟩
  · have hc : cmpV ⟨k, i, s, f⟩ ⟨l, j, t, g⟩ = sgn (decide (k < l)) := by simp [cmpV, hk]
    have HC := Lib.hid hc; clear hc
    go_enter Tryz.func90, Tryz.ntmps90
    go_wp2_with fail
    refine (sign_any _ _).mono ?_
    rintro e w' ⟨rfl, rfl⟩
    go_wp2_with fail
    go_ret
    exact ⟨ret_i64 HC.out.symm, rfl⟩

theorem rowsV_drop {A B : List V} {j : Nat} {x y : V} (hx : A[j]? = some x) (hy : B[j]? = some y) : rowsV (A.drop j) (B.drop j) = if cmpV x y ≠ 0 then cmpV x y else rowsV (A.drop (j + 1)) (B.drop (j + 1)) := by
  obtain ⟨ha, ea⟩ := List.getElem?_eq_some_iff.1 hx
  obtain ⟨hb, eb⟩ := List.getElem?_eq_some_iff.1 hy
  rw [List.drop_eq_getElem_cons ha, List.drop_eq_getElem_cons hb, ea, eb]
  rfl

theorem rowsV_end {A B : List V} {j : Nat} (hj : j ≤ A.length) (hj2 : j ≤ B.length) (h : ¬ (j < A.length ∧ j < B.length)) :
    rowsV (A.drop j) (B.drop j) = if A.length = B.length then 0 else sgn (decide (A.length < B.length)) := by
  rcases Nat.lt_or_ge j A.length with h1 | h1
  · have h2 : B.drop j = [] := List.drop_of_length_le (by omega)
    rw [h2, List.drop_eq_getElem_cons h1, if_neg (by omega), decide_eq_false (by omega)]
    rfl
  · have h2 : A.drop j = [] := List.drop_of_length_le (by omega)
    rw [h2]
    rcases Nat.lt_or_ge j B.length with h3 | h3
    · rw [List.drop_eq_getElem_cons h3, if_neg (by omega), decide_eq_true (by omega)]
      rfl
    · rw [List.drop_of_length_le (by omega), if_pos (by omega)]
      rfl

set_option maxRecDepth 10000000 in
set_option maxHeartbeats 4000000 in
theorem rows_any {w : World} {v u : Value} {A B : List V} (h : ReadV w v A) (g : ReadV w u B) (hok : ∀ x ∈ A, x.ok) (gok : ∀ x ∈ B, x.ok) (_hn : A.length ≤ maxLen) (gn : B.length ≤ maxLen) :
    Calls Tryz.prog 70 #[v, u] w fun e w' => e = .returned (.int .i64 (rowsV A B)) ∧ Same (fun _ => False) w w' := by
  obtain ⟨ao, cap, rfl, hc⟩ := h
  obtain ⟨bo, dap, rfl, gc⟩ := g
  have HC := Lib.hid hc; have HOK := Lib.hid hok; have GC := Lib.hid gc; have GOK := Lib.hid gok
  unfold maxLen at _hn gn
  clear hc hok gc gok
  go_enter Tryz.func70, Tryz.ntmps70
  go_wp2_with fail
  go_loopg [5] A.length (fun r i wr => ∃ j : Nat, j + r = A.length ∧ i = .int .i64 j ∧ j ≤ B.length ∧ rowsV A B = rowsV (A.drop j) (B.drop j) ∧ Same (fun _ => False) w wr)
  case atStart => exact ⟨0, by omega, rfl, by omega, rfl, Same.refl _ _⟩
  case round =>
    obtain ⟨j, hj, rfl, hjb, hr, hs⟩ := hrel
    have HR := Lib.hid hr; have HS := Lib.hid hs
    clear hr hs
    by_cases hboth : j < A.length ∧ j < B.length
    · obtain ⟨ja, jb⟩ := hboth
      obtain ⟨⟨xk, xi, xs, xf⟩, hx⟩ : ∃ x, A[j]? = some x := ⟨A[j], List.getElem?_eq_getElem ja⟩
      obtain ⟨⟨yk, yi, ys, yf⟩, hy⟩ : ∃ y, B[j]? = some y := ⟨B[j], List.getElem?_eq_getElem jb⟩
      obtain ⟨b, off, rfl, hb, a0, a1, a2, a3⟩ := HC.out j _ hx
      obtain ⟨b', off', rfl, hb', z0, z1, z2, z3⟩ := GC.out j _ hy
      have hbl := HS.out.block b hb id
      have hbl' := HS.out.block b' hb' id
      rw [← World.cell?_of_block (a := ⟨b, _, none⟩) hbl] at a0 a1 a2 a3
      rw [← World.cell?_of_block (a := ⟨b', _, none⟩) hbl'] at z0 z1 z2 z3
      simp only at a0 a1 a2 a3 z0 z1 z2 z3
      have hxo := HOK.out _ (List.mem_of_getElem? hx)
      have hyo := GOK.out _ (List.mem_of_getElem? hy)
      have hcmp := compare_any ⟨xk, xi, xs, xf⟩ ⟨yk, yi, ys, yf⟩ hxo hyo
      have hd := rowsV_drop hx hy
      obtain ⟨c, hc⟩ : ∃ c, c = cmpV ⟨xk, xi, xs, xf⟩ ⟨yk, yi, ys, yf⟩ := ⟨_, rfl⟩
      rw [← hc] at hcmp hd
      have HCMP := Lib.hid hcmp; have HD := Lib.hid hd
      have hl1 : b < wr.heap.size := Nat.lt_of_lt_of_le hb HS.out.size
      have hl2 : b' < wr.heap.size := Nat.lt_of_lt_of_le hb' HS.out.size
      clear hx hy hbl hbl' hxo hyo hcmp hd hc HC GC HOK GOK
      go_wp2_with fail
      go_region_held3 (fun w' => w'.cell? ⟨b, off + j * 4, none⟩ = some (.int .i64 xk) ∧ w'.cell? ⟨b, off + j * 4 + 1, none⟩ = some (.int .i64 xi) ∧ w'.cell? ⟨b, off + j * 4 + 2, none⟩ = some (.string xs) ∧ w'.cell? ⟨b, off + j * 4 + 3, none⟩ = some (.float .f64 xf) ∧
          w'.cell? ⟨b', off' + j * 4, none⟩ = some (.int .i64 yk) ∧ w'.cell? ⟨b', off' + j * 4 + 1, none⟩ = some (.int .i64 yi) ∧ w'.cell? ⟨b', off' + j * 4 + 2, none⟩ = some (.string ys) ∧ w'.cell? ⟨b', off' + j * 4 + 3, none⟩ = some (.float .f64 yf)) (go_keep)
        (first | (go_at_call 90; refine (HCMP.out _).mono ?_; rintro e w' ⟨rfl, rfl⟩))
      all_goals
        have hs2 := ((HS.out.alloc (⟨xk, xi, xs, xf⟩ : V).obj).alloc (⟨yk, yi, ys, yf⟩ : V).obj).drew
        have HS2 := Lib.hid hs2; clear hs2 HS HCMP
        by_cases hz : c = 0
        · have hr := HD.out
          rw [if_neg (by simpa using hz)] at hr
          have HR2 := Lib.hid (HR.out.trans hr)
          clear hr HD HR
          go_wp2_with fail
          go_roundg (gk - 1)
          case measure => omega
          case rel => exact ⟨j + 1, by omega, by go_num, by omega, HR2.out, HS2.out⟩
        · have hr := HD.out
          rw [if_pos hz] at hr
          have HR2 := Lib.hid (HR.out.trans hr)
          clear hr HD HR
          go_wp2_with fail
          go_ret
          exact ⟨ret_i64 HR2.out.symm, HS2.out⟩
    · have he := rowsV_end (by omega) hjb hboth
      rw [← HR.out] at he
      by_cases hl : A.length = B.length
      · rw [if_pos hl] at he
        have HE := Lib.hid he; clear he HC GC HOK GOK HR
        obtain rfl : j = A.length := by omega
        clear hboth hj hjb
        have hl2 : (A.length : Int) = B.length := by omega
        go_wp2_with fail
        go_ret
        exact ⟨ret_i64 HE.out.symm, HS.out⟩
      · rw [if_neg hl] at he
        have HE := Lib.hid he; clear he HC GC HOK GOK HR
        have hl2 : ¬ (A.length : Int) = B.length := by omega
        have hb2 : ((A.length : Int) == (B.length : Int)) = false := by simp; omega
        have hd2 : decide ((A.length : Int) < (B.length : Int)) = decide (A.length < B.length) := by simp
        by_cases hja : (j : Int) < A.length
        · have hjb2 : ¬ (j : Int) < B.length := by omega
          go_wp2_with fail
          refine (sign_any _ _).mono ?_
          rintro e w' ⟨rfl, rfl⟩
          go_wp2_with fail
          go_ret
          exact ⟨ret_i64 (by rw [HE.out]), HS.out⟩
        · go_wp2_with fail
          refine (sign_any _ _).mono ?_
          rintro e w' ⟨rfl, rfl⟩
          go_wp2_with fail
          go_ret
          exact ⟨ret_i64 (by rw [HE.out]), HS.out⟩

theorem vals_any {w : World} {v u : Value} {A B : List V} (h : ReadV w v A) (g : ReadV w u B) (hok : ∀ x ∈ A, x.ok) (gok : ∀ x ∈ B, x.ok) (hn : A.length ≤ maxLen) (gn : B.length ≤ maxLen) :
    Calls Tryz.prog 47 #[v, u] w fun e w' => e = .returned (.bool (decide (A.length = B.length) && decide (rowsV A B = 0))) ∧ Same (fun _ => False) w w' := by
  have h0 := h
  have g0 := g
  obtain ⟨ao, cap, rfl, _⟩ := h
  obtain ⟨bo, dap, rfl, _⟩ := g
  have HR := Lib.hid (rows_any h0 g0 hok gok hn gn)
  clear h0 g0
  unfold maxLen at hn gn
  go_enter Tryz.func47, Tryz.ntmps47
  by_cases hl : (A.length : Int) = B.length
  · have hl2 : A.length = B.length := by omega
    have HL := Lib.hid hl2; clear hl2
    go_wp2_with fail
    refine HR.out.mono ?_
    rintro e w1 ⟨rfl, hs⟩
    have HS := Lib.hid hs; clear hs
    go_wp2_with fail
    go_ret
    exact ⟨ret_bool (by rw [decide_eq_true HL.out]; rw [Bool.eq_iff_iff]; simp), HS.out⟩
  · have hl2 : ¬ A.length = B.length := by omega
    have HL := Lib.hid hl2; clear hl2
    go_wp2_with fail
    go_ret
    exact ⟨ret_bool (by rw [decide_eq_false HL.out]; rfl), Same.refl _ _⟩

theorem few_many {L : List V} {m : Int} (h : (fewV L && decide ((L.length : Int) ≤ m)) = true) : (L.length : Int) ≤ m := by
  simp only [Bool.and_eq_true, decide_eq_true_eq] at h
  exact h.2

theorem few_split {L : List V} {m : Int} : (fewV L && decide ((L.length : Int) ≤ m)) = false ∨ (fewV L && decide ((L.length : Int) ≤ m)) = true := by
  cases (fewV L && decide ((L.length : Int) ≤ m)) <;> simp

theorem Same.narrow {F : Nat → Prop} {w w' : World} (h : Same F w w') (hF : ∀ k, k < w.heap.size → ¬ F k) : Same (fun _ => False) w w' := ⟨h.os, h.tape, h.output, h.size, fun k hk _ => h.block k hk (hF k hk)⟩

theorem cmpV_self (x : V) : cmpV x x = 0 := by unfold cmpV; simp [cmpF_same]

theorem rowsV_self : ∀ (L : List V), rowsV L L = 0
  | [] => rfl
  | x :: L => by
    show (if cmpV x x ≠ 0 then cmpV x x else rowsV L L) = 0
    rw [if_neg (by simp [cmpV_self])]
    exact rowsV_self L

theorem vals_self {w : World} {v u : Value} {A : List V} (h : ReadV w v A) (g : ReadV w u A) (hok : ∀ x ∈ A, x.ok) (hn : A.length ≤ maxLen) :
    Calls Tryz.prog 47 #[v, u] w fun e w' => e = .returned (.bool true) ∧ Same (fun _ => False) w w' :=
  (vals_any h g hok hok hn hn).mono fun e w' ⟨h1, h2⟩ => ⟨by rw [h1, rowsV_self A]; simp, h2⟩

open Go.ChangeShapes Go.WideShapes

variable {H : Type} {enc : TypeId × Value → H} {w : World} {base : Nat} {spare : Nat → Bool} {held : Bool}

theorem trod_float {P : Program} {t : TypeId} {k : FloatKind} {fuel : Nat} {cs : List Value} {x : DataW H × List MemPlace} (ht : P.underlying t = some (.float k)) (h : DataW.trod enc P w base spare held fuel t cs = some x) :
    ∃ n, cs = [.float k n] ∧ (Lit.float k n).wf = true := by
  cases fuel with
  | zero => simp [DataW.trod] at h
  | succ n =>
    unfold DataW.trod at h
    rw [ht] at h
    split at h <;> simp_all

theorem value_struct : ∃ f0 f1 f2 f3 : Field, Tryz.prog.underlying 39 = some (.struct #[f0, f1, f2, f3]) ∧ f0.offset = 0 ∧ f1.offset = 1 ∧ f2.offset = 2 ∧ f3.offset = 3 ∧ f0.type = 3 ∧ f1.type = 2 ∧ f2.type = 9 ∧ f3.type = 37 :=
  ⟨_, _, _, _, Tryz.underlying39, rfl, rfl, rfl, rfl, rfl, rfl, rfl, rfl⟩

theorem value_cells4 : Tryz.prog.cellsOf 39 = 4 := by kernel_rfl

theorem cells_int : Tryz.prog.cellsOf 3 = 1 := by kernel_rfl

theorem cells_int64 : Tryz.prog.cellsOf 2 = 1 := by kernel_rfl

theorem cells_string : Tryz.prog.cellsOf 9 = 1 := by kernel_rfl

theorem cells_float : Tryz.prog.cellsOf 37 = 1 := by kernel_rfl

theorem open_elem {n : Nat} {cs : List Value} {x : DataW H × List MemPlace} (h : DataW.trod enc Tryz.prog w base spare held n 39 cs = some x) :
    ∃ y : V, y.ok ∧ cs = y.cells := by
  obtain ⟨f0, f1, f2, f3, he, o0, o1, o2, o3, t0, t1, t2, t3⟩ := value_struct
  obtain ⟨xs, k, _, _, hl, hxl, hf⟩ := DataW.trod_struct he h
  rw [value_cells4] at hl
  match xs, hxl, cs, hl with
  | [y0, y1, y2, y3], _, [v0, v1, v2, v3], _ =>
    have g0 := hf 0 f0 rfl
    have g1 := hf 1 f1 rfl
    have g2 := hf 2 f2 rfl
    have g3 := hf 3 f3 rfl
    rw [o0, t0, cells_int] at g0
    rw [o1, t1, cells_int64] at g1
    rw [o2, t2, cells_string] at g2
    rw [o3, t3, cells_float] at g3
    obtain ⟨k, e0, _, w0⟩ := DataW.trod_int Tryz.underlying3 g0
    obtain ⟨i, e1, _, w1⟩ := DataW.trod_int Tryz.underlying2 g1
    obtain ⟨s, e2, _, w2⟩ := DataW.trod_string Tryz.underlying9 g2
    obtain ⟨f, e3, w3⟩ := trod_float Tryz.underlying37 g3
    simp at e0 e1 e2 e3
    subst e0; subst e1; subst e2; subst e3
    have b0 := bounds_i64 w0
    have b1 := bounds_i64 w1
    refine ⟨⟨k, i, s, f⟩, ⟨b0.1, b0.2, b1.1, b1.2, w2, ?_⟩, rfl⟩
    simpa [Lit.wf] using w3

theorem lt_of_cell {w : World} {a : Addr} {v : Value} (h : w.cell? a = some v) : a.block < w.heap.size := by
  rcases Nat.lt_or_ge a.block w.heap.size with h1 | h1
  · exact h1
  · simp [World.cell?, Array.getElem?_eq_none h1] at h

theorem open_values {r : Reach} {b0 : Nat} {v : Value} {d : DataW H} {ps : List MemPlace} (hval : Value.okWide Tryz.prog w r b0 34 v) (hd : DataW.Trod enc Tryz.prog w base spare held 34 v d ps) :
    ∃ L, ReadV w v L ∧ (∀ x ∈ L, x.ok) ∧ L.length ≤ maxLen ∧ ∀ ao n cap, v = .slice ao n cap → n ≤ cap ∧ cap ≤ maxLen := by
  obtain ⟨a0, l0, c0, rfl⟩ := okWide_slice Tryz.underlying34 hval
  obtain ⟨fuel, hf⟩ := hd
  rcases Go.Deep.open_slice Tryz.underlying34 hf with ⟨he, _⟩ | ⟨a, len, cap, m, n, D, Pl, he, hb, hl, hm, hmm, _, hx⟩
  · simp [Value.cells] at he
    obtain ⟨rfl, rfl, rfl⟩ := he
    exact ⟨[], ⟨none, 0, rfl, fun j x hj => by simp at hj⟩, fun x hx => by simp at hx, Nat.zero_le _, fun ao n cap h => by cases h; exact ⟨Nat.le_refl _, Nat.zero_le _⟩⟩
  · simp [Value.cells] at he
    obtain ⟨rfl, rfl, rfl⟩ := he
    have each : ∀ i, i < l0 → ∃ y : V, y.ok ∧ w.cells? base (a.add (i * 4)) 4 = some y.cells := by
      intro i hi
      obtain ⟨cs', h1, h2⟩ := hx i (by rw [hmm]; split <;> omega)
      obtain ⟨y, hy, rfl⟩ := open_elem h2
      rw [value_cells4] at h1
      exact ⟨y, hy, h1⟩
    haveI : Inhabited V := ⟨⟨0, 0, ⟨#[]⟩, 0⟩⟩
    obtain ⟨q, hq⟩ := Go.Deep.choose_lt each
    refine ⟨(List.range l0).map q, ⟨some a, c0, by simp, fun j x hj => ?_⟩, fun x hx => ?_, by simp; omega, fun ao n cap h => by cases h; exact ⟨hl, hm⟩⟩
    · simp only [List.getElem?_map, Option.map_eq_some_iff] at hj
      obtain ⟨i, hi, rfl⟩ := hj
      obtain ⟨hi1, rfl⟩ := List.getElem?_eq_some_iff.1 hi
      rw [List.length_range] at hi1
      rw [List.getElem_range]
      obtain ⟨_, _, hcell⟩ := World.cells?_some (hq j hi1).2
      have e0 := hcell 0 (by omega)
      have e1 := hcell 1 (by omega)
      have e2 := hcell 2 (by omega)
      have e3 := hcell 3 (by omega)
      obtain ⟨b, off, spot⟩ := a
      have hs : spot = none := by
        by_cases hz : j * 4 = 0
        · simpa [Addr.add, hz] using World.cell?_spot e0
        · obtain ⟨_, _, hc0⟩ := World.cells?_some (hq 0 (by omega)).2
          simpa [Addr.add] using World.cell?_spot (hc0 0 (by omega))
      subst hs
      rw [Addr.add_lit, Addr.add_lit] at e0 e1 e2 e3
      exact ⟨b, off, rfl, lt_of_cell e0, e0, e1, e2, e3⟩
    · simp only [List.mem_map, List.mem_range] at hx
      obtain ⟨i, hi, rfl⟩ := hx
      exact (hq i hi).1

end Go.Proofs.YtgfmemggfbgjeaaGreatDoor
