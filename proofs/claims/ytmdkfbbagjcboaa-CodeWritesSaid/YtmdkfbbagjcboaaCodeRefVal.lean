/-
  The document's answer: a value at the beginning of bytes. Conditions: none on inputs but small lengths. (Printed by wip/tools/refval_gen.py.)
-/
import Derived.Test.YtmdkfbbagjcboaaCodeReadS
import Derived.Test.YtmdkfbbagjcboaaCodeMath
namespace Go.Proofs.Ytmdkfbbagjcboaa
open Go.RowKit

def RSays (l : List UInt8) (e : Ending) : Prop :=
  match vdec l with
    | none => ∃ x : V, e = .returned (.tuple #[x.val, .int .i64 0])
    | some p => ∃ n : Nat, e = .returned (.tuple #[p.1.val, .int .i64 (n : Int)]) ∧ 0 < n ∧ n ≤ l.length ∧ p.2 = l.drop n

theorem rsays_none {l : List UInt8} (h : vdec l = none) (x : V) : RSays l (.returned (.tuple #[x.val, .int .i64 0])) := by
  unfold RSays; rw [h]; exact ⟨x, rfl⟩

theorem rsays_some {l : List UInt8} {x : V} (n : Nat) (h : vdec l = some (x, l.drop n)) (h0 : 0 < n) (hn : n ≤ l.length) (m : Int) (hm : m = n) : RSays l (.returned (.tuple #[x.val, .int .i64 m])) := by
  unfold RSays; rw [h]; subst hm; exact ⟨n, rfl, h0, hn, rfl⟩

theorem rval_ret {a : Act} {w : World} {x : V} {p : Nat} {n : Int} {R : Ending → World → Prop} (hp : a.tmps.getD 2 undef = .pointer (some ⟨p, 0, none⟩)) (hb : w.heap[p]? = some x.obj) (h3 : a.tmps.getD 3 undef = .int .i64 n)
    (hd : a.defers = []) (hR : R (.returned (.tuple #[x.val, .int .i64 n])) w) : bodyPost Try.prog Try.f25 R .ret a w := by
  obtain ⟨e0, e1, e2, e3⟩ := obj_cells hb
  refine bodyPost_ret ?_ hd hR
  rw [results_cell_tmp rfl, hp, h3]
  simp [go_sem, e0, e1, e2, e3]

/-- The end of a walk: the value is laid where it is told from. -/
theorem rval_end {w W : World} {p2 : Nat} {y x : V} {n : Int} {l : List UInt8} {a : Act} (hs : Same (fun _ => False) w W) (hn : W.heap[p2]? = some y.obj) (h2 : w.heap.size ≤ p2)
    (hp : a.tmps.getD 2 undef = .pointer (some ⟨p2, 0, none⟩)) (h3 : a.tmps.getD 3 undef = .int .i64 n) (hd : a.defers = []) (hr : RSays l (.returned (.tuple #[x.val, .int .i64 n]))) :
    bodyPost Try.prog Try.f25 (fun e w' => Same (fun _ => False) w w' ∧ RSays l e) .ret a (set4 W p2 x) :=
  rval_ret hp (set4_obj hn x) h3 hd ⟨set4_same hs (fun h => absurd h (by omega)) x, hr⟩

theorem rval_done {w W : World} {p2 p4 o : Nat} {y x : V} {u : Value} {n : Int} {l : List UInt8} {a : Act} (hs : Same (fun _ => False) w W) (hn : W.heap[p2]? = some y.obj) (h24 : p2 ≠ p4) (h2 : w.heap.size ≤ p2) (h4 : w.heap.size ≤ p4)
    (hp : a.tmps.getD 2 undef = .pointer (some ⟨p2, 0, none⟩)) (h3 : a.tmps.getD 3 undef = .int .i64 n) (hd : a.defers = []) (hr : RSays l (.returned (.tuple #[x.val, .int .i64 n]))) :
    bodyPost Try.prog Try.f25 (fun e w' => Same (fun _ => False) w w' ∧ RSays l e) .ret a (set4 (W.setCell ⟨p4, o, none⟩ u) p2 x) :=
  rval_end (hs.setCell (p := ⟨p4, o, none⟩) (fun (h : p4 < w.heap.size) => by omega) u) ((Below.heap_setCell _ _ _ _ h24).trans hn) h2 hp h3 hd hr

/-- The end of a walk, the cells told anew. -/
theorem rval_fresh {w : World} {x : V} {o : Obj} {n : Int} {l : List UInt8} {a : Act}
    (hp : a.tmps.getD 2 undef = .pointer (some ⟨w.heap.size, 0, none⟩)) (h3 : a.tmps.getD 3 undef = .int .i64 n) (hd : a.defers = []) (hr : RSays l (.returned (.tuple #[x.val, .int .i64 n]))) :
    bodyPost Try.prog Try.f25 (fun e w' => Same (fun _ => False) w w' ∧ RSays l e) .ret a ((w.alloc x.obj).alloc o) :=
  rval_ret hp (((Same.refl (fun _ => False) (w.alloc x.obj)).alloc o).obj (heap_alloc_new _ _) id) h3 hd ⟨((Same.refl _ w).alloc _).alloc _, hr⟩

/-- The two cells of the walk. -/
structure Two (w W : World) (x : V) : Prop where
  same : Same (fun _ => False) w W
  at2 : W.heap[w.heap.size]? = some V.nil.obj
  at4 : W.heap[w.heap.size + 1]? = some x.obj

theorem Two.start (w : World) (x : V) : Two w ((w.alloc V.nil.obj).alloc x.obj) x :=
  ⟨((Same.refl _ w).alloc _).alloc _, ((Same.refl (fun _ => False) _).alloc x.obj).obj (heap_alloc_new _ _) id, by
    have := heap_alloc_new (w.alloc V.nil.obj) x.obj
    simpa using this⟩

theorem Two.next {w W W' : World} {x : V} (h : Two w W x) {F : Nat → Prop} (hs : Same F W W') (hF : ∀ k, F k → w.heap.size + 2 ≤ k) : Two w W' x :=
  ⟨h.same.trans hs (fun k hk hf => by have := hF k hf; omega), hs.obj h.at2 (fun hf => by have := hF _ hf; omega), hs.obj h.at4 (fun hf => by have := hF _ hf; omega)⟩

theorem tdec_drop_ne {l : List UInt8} {j : Nat} (hj : j < l.length) (h : l[j] ≠ 0) : tdec (l.drop j) = (tdec (l.drop (j + 1))).map fun p => (l[j] :: p.1, p.2) := by
  rw [List.drop_eq_getElem_cons hj]; exact tdec_ne _ _ h

theorem tdec_drop_end {l : List UInt8} {j : Nat} (hj : l.length ≤ j + 1) : tdec (l.drop j) = none := by
  have hl : (l.drop j).length ≤ 1 := by rw [List.length_drop]; omega
  match l.drop j, hl with
  | [], _ => rfl
  | [_], _ => rfl
  | _ :: _ :: _, h => simp at h

theorem tdec_drop_zero {l : List UInt8} {j : Nat} (hj : j + 1 < l.length) (h : l[j]'(by omega) = 0) :
    tdec (l.drop j) = if l[j + 1] = 1 then some ([], l.drop (j + 2)) else if l[j + 1] = 255 then (tdec (l.drop (j + 2))).map fun p => (0 :: p.1, p.2) else none := by
  rw [List.drop_eq_getElem_cons (by omega), List.drop_eq_getElem_cons hj, h]
  rfl

theorem vdec_text_none {k : UInt8} (hk : k = 3 ∨ k = 4) {r : List UInt8} (h : tdec r = none) : vdec (k :: r) = none := by
  rcases hk with rfl | rfl <;> simp [vdec, h]

theorem vdec_text_long {k : UInt8} (hk : k = 3 ∨ k = 4) {r t s : List UInt8} (h : tdec r = some (s, t)) (hs : ¬ s.length ≤ 60) : vdec (k :: r) = none := by
  rcases hk with rfl | rfl <;> simp [vdec, h, hs]

theorem vdec_text_some {k : UInt8} (hk : k = 3 ∨ k = 4) {r t s : List UInt8} (h : tdec r = some (s, t)) (hs : s.length ≤ 60) : vdec (k :: r) = some (⟨k.toNat, 0, ⟨s.toArray⟩, 0⟩, t) := by
  rcases hk with rfl | rfl <;> simp [vdec, h, hs]

set_option maxRecDepth 100000 in
set_option maxHeartbeats 4000000 in
theorem rval_bool {w : World} {b0 off cap : Nat} {r : List UInt8} (h : RB w b0 off cap (2 :: r)) (hb : b0 < w.heap.size) (n : Nat) (hn : n = (2 :: r).length) (_hl : n ≤ 1000000) :
    Calls Try.prog 25 #[.slice (some ⟨b0, off, none⟩) n cap] w fun e w' => Same (fun _ => False) w w' ∧ RSays (2 :: r) e := by
  have hle : n ≤ cap := by rw [hn]; exact h.le
  have hmx := h.mx
  have hn1 : 1 ≤ n := by rw [hn]; simp
  unfold maxLen at hmx
  have hs1 : Same (fun _ => False) w (w.alloc V.nil.obj) := (Same.refl _ w).alloc _
  have hc0 := (h.same hs1 hb id).cells 0 2 rfl
  rw [Nat.add_zero] at hc0
  have HH := Lib.hid h
  have HT := Lib.hid (Two.start w ⟨2, 0, ⟨#[]⟩, 0⟩)
  have hn2 : n = r.length + 1 := by simpa using hn
  have HN := Lib.hid hn
  clear h hn hs1
  by_cases h2 : n < 2
  · have hv : vdec (2 :: r) = none := by
      have : r = [] := List.eq_nil_of_length_eq_zero (by omega)
      rw [this]; rfl
    have HV := Lib.hid hv; clear hv hn2
    go_enter Try.func25, Try.ntmps25
    go_wp2_with fail
    exact rval_fresh (x := ⟨2, 0, ⟨#[]⟩, 0⟩) rfl rfl rfl (rsays_none HV.out _)
  · have hr0 : 0 < r.length := by omega
    obtain ⟨b, t, hbt⟩ : ∃ b t, r = b :: t := by
      cases r with
      | nil => simp at hr0
      | cons b t => exact ⟨b, t, rfl⟩
    have hblt := b.toNat_lt
    have hc1 := (HH.out.same HT.out.same hb id).cells 1 b (by rw [hbt]; rfl)
    by_cases h01 : b = 0 ∨ b = 1
    · have hv : vdec (2 :: r) = some (⟨2, b.toNat, ⟨#[]⟩, 0⟩, (2 :: r).drop 2) := by rw [hbt]; simp [vdec, h01]
      have hg : ¬ (b.toNat : Int) > 1 := by rcases h01 with rfl | rfl <;> decide
      have hX : wrap64 (b.toNat : Int) = b.toNat := by unfold wrap64; omega
      have HV := Lib.hid hv; have HBT := Lib.hid hbt
      clear hv h01 hbt hn2
      go_enter Try.func25, Try.ntmps25
      go_wp2_with fail
      exact rval_fresh (x := ⟨2, b.toNat, ⟨#[]⟩, 0⟩) rfl rfl rfl (rsays_some 2 HV.out (by omega) (by rw [← HN.out]; omega) _ rfl)
    · have hv : vdec (2 :: r) = none := by rw [hbt]; simp [vdec, h01]
      have hg : (b.toNat : Int) > 1 := by
        have e0 : b.toNat ≠ 0 := fun e => h01 (Or.inl (UInt8.toNat_inj.1 e))
        have e1 : b.toNat ≠ 1 := fun e => h01 (Or.inr (UInt8.toNat_inj.1 e))
        omega
      have HV := Lib.hid hv; have HBT := Lib.hid hbt
      clear hv h01 hbt hn2
      go_enter Try.func25, Try.ntmps25
      go_wp2_with fail
      exact rval_fresh (x := ⟨2, 0, ⟨#[]⟩, 0⟩) rfl rfl rfl (rsays_none HV.out _)

set_option maxRecDepth 100000 in
set_option maxHeartbeats 4000000 in
theorem rval_int {w : World} {b0 off cap : Nat} {r : List UInt8} (h : RB w b0 off cap (1 :: r)) (hb : b0 < w.heap.size) (n : Nat) (hn : n = (1 :: r).length) (_hl : n ≤ 1000000) :
    Calls Try.prog 25 #[.slice (some ⟨b0, off, none⟩) n cap] w fun e w' => Same (fun _ => False) w w' ∧ RSays (1 :: r) e := by
  have hle : n ≤ cap := by rw [hn]; exact h.le
  have hmx := h.mx
  have hn1 : 1 ≤ n := by rw [hn]; simp
  unfold maxLen at hmx
  have hs1 : Same (fun _ => False) w (w.alloc V.nil.obj) := (Same.refl _ w).alloc _
  have hc0 := (h.same hs1 hb id).cells 0 1 rfl
  rw [Nat.add_zero] at hc0
  have HH := Lib.hid h
  have HT := Lib.hid (Two.start w ⟨1, 0, ⟨#[]⟩, 0⟩)
  have hn2 : n = r.length + 1 := by simpa using hn
  have HN := Lib.hid hn
  clear h hn hs1
  by_cases h8 : n < 9
  · have hv : vdec (1 :: r) = none := by rw [vdec_1, if_pos (by omega)]
    have HV := Lib.hid hv; clear hv hn2
    go_enter Try.func25, Try.ntmps25
    go_wp2_with fail
    exact rval_fresh (x := ⟨1, 0, ⟨#[]⟩, 0⟩) rfl rfl rfl (rsays_none HV.out _)
  · have hr8 : 8 ≤ r.length := by omega
    clear hn2
    go_enter Try.func25, Try.ntmps25
    go_wp2_with fail
    go_loopg [5, 6] 8 (fun g u i wr => ∃ j : Nat, j + g = 8 ∧ i = .int .i64 ((j : Int) + 1) ∧ u = .int .u64 (beN (r.take j)) ∧ Two w wr ⟨1, 0, ⟨#[]⟩, 0⟩)
    case atStart => exact ⟨0, rfl, rfl, rfl, HT.out⟩
    case round =>
      obtain ⟨j, hj, rfl, rfl, ht⟩ := hrel
      have HT2 := Lib.hid ht
      clear HT
      by_cases h0 : gk = 0
      · subst h0
        obtain rfl : j = 8 := by omega
        clear hj
        have hlt := beN_lt (r.take 8)
        rw [show (r.take 8).length = 8 by simp; omega] at hlt
        obtain ⟨m, hm⟩ : ∃ m, m = beN (r.take 8) := ⟨_, rfl⟩
        have hb2 := lt_of_block ht.at2
        have hb4 := lt_of_block ht.at4
        obtain ⟨a0, a1, a2, a3⟩ := obj_cells ht.at4
        obtain ⟨z0, z1, z2, z3⟩ := obj_cells ht.at2
        have f6 := obj_free ht.at4
        have f2 := obj_free ht.at2
        simp only at a0 a1 a2 a3 z0 z1 z2 z3
        have hv : vdec (1 :: r) = some (⟨1, (m : Int) - 9223372036854775808, ⟨#[]⟩, 0⟩, (1 :: r).drop 9) := by rw [vdec_1, if_neg (by omega), hm]; rfl
        rw [← hm] at hlt ⊢
        have hX : wrap64 (IntKind.u64.wrap ((m : Int) - 9223372036854775808)) = (m : Int) - 9223372036854775808 := by
          have : IntKind.u64.wrap ((m : Int) - 9223372036854775808) = ((m : Int) - 9223372036854775808) % 18446744073709551616 := IntKind.wrap_u64 _
          rw [this]; unfold wrap64; omega
        have HV := Lib.hid hv
        clear hv hm ht
        go_wp2_with fail
        exact rval_done (x := ⟨1, (m : Int) - 9223372036854775808, ⟨#[]⟩, 0⟩) HT2.out.same HT2.out.at2 (by omega) (Nat.le_refl _) (by omega) rfl rfl rfl (rsays_some 9 HV.out (by omega) (by rw [← HN.out]; omega) _ rfl)
      · obtain ⟨g, rfl⟩ : ∃ g, gk = g + 1 := ⟨gk - 1, by omega⟩
        have hj8 : j < 8 := by omega
        have hjr : j < r.length := by omega
        have hc := (HH.out.same HT2.out.same hb id).cells (j + 1) r[j] (by simp [hjr])
        have hN := beN_lt (r.take j)
        have hst := beN_snoc (r.take j) r[j]
        rw [← List.take_succ_eq_append_getElem hjr] at hst
        obtain ⟨c, hcc⟩ : ∃ c, c = r[j] := ⟨_, rfl⟩
        rw [← hcc] at hc hst
        have hbb := bits_or_byte (beN (r.take j)) c (Nat.lt_of_lt_of_le hN (Nat.pow_le_pow_right (by omega) (by simp; omega)))
        obtain ⟨m, hm⟩ : ∃ m, m = beN (r.take j) := ⟨_, rfl⟩
        rw [← hm] at hbb hst ⊢
        have HBB := Lib.hid hbb; have HST := Lib.hid hst; have HJ := Lib.hid hj
        clear hbb hst hcc hm hN hj h0 ht
        go_wp2_with fail
        go_roundg g
        case measure => omega
        case rel => exact ⟨j + 1, by have := HJ.out; omega, by go_num, by rw [HST.out, ← HBB.out], HT2.out⟩

set_option maxRecDepth 100000 in
set_option maxHeartbeats 4000000 in
theorem rval_float {w : World} {b0 off cap : Nat} {r : List UInt8} (h : RB w b0 off cap (5 :: r)) (hb : b0 < w.heap.size) (n : Nat) (hn : n = (5 :: r).length) (_hl : n ≤ 1000000) :
    Calls Try.prog 25 #[.slice (some ⟨b0, off, none⟩) n cap] w fun e w' => Same (fun _ => False) w w' ∧ RSays (5 :: r) e := by
  have hle : n ≤ cap := by rw [hn]; exact h.le
  have hmx := h.mx
  have hn1 : 1 ≤ n := by rw [hn]; simp
  unfold maxLen at hmx
  have hs1 : Same (fun _ => False) w (w.alloc V.nil.obj) := (Same.refl _ w).alloc _
  have hc0 := (h.same hs1 hb id).cells 0 5 rfl
  rw [Nat.add_zero] at hc0
  have HH := Lib.hid h
  have HT := Lib.hid (Two.start w ⟨5, 0, ⟨#[]⟩, 0⟩)
  have hn2 : n = r.length + 1 := by simpa using hn
  have HN := Lib.hid hn
  clear h hn hs1
  by_cases h8 : n < 9
  · have hv : vdec (5 :: r) = none := by rw [vdec_5, if_pos (by omega)]
    have HV := Lib.hid hv; clear hv hn2
    go_enter Try.func25, Try.ntmps25
    go_wp2_with fail
    exact rval_fresh (x := ⟨5, 0, ⟨#[]⟩, 0⟩) rfl rfl rfl (rsays_none HV.out _)
  · have hr8 : 8 ≤ r.length := by omega
    clear hn2
    go_enter Try.func25, Try.ntmps25
    go_wp2_with fail
    go_loopg [5, 6] 8 (fun g u i wr => ∃ j : Nat, j + g = 8 ∧ i = .int .i64 ((j : Int) + 1) ∧ u = .int .u64 (beN (r.take j)) ∧ Two w wr ⟨5, 0, ⟨#[]⟩, 0⟩)
    case atStart => exact ⟨0, rfl, rfl, rfl, HT.out⟩
    case round =>
      obtain ⟨j, hj, rfl, rfl, ht⟩ := hrel
      have HT2 := Lib.hid ht
      clear HT
      by_cases h0 : gk = 0
      · subst h0
        obtain rfl : j = 8 := by omega
        clear hj
        have hlt := beN_lt (r.take 8)
        rw [show (r.take 8).length = 8 by simp; omega] at hlt
        obtain ⟨m, hm⟩ : ∃ m, m = beN (r.take 8) := ⟨_, rfl⟩
        have hb2 := lt_of_block ht.at2
        have hb4 := lt_of_block ht.at4
        obtain ⟨a0, a1, a2, a3⟩ := obj_cells ht.at4
        obtain ⟨z0, z1, z2, z3⟩ := obj_cells ht.at2
        have f6 := obj_free ht.at4
        have f2 := obj_free ht.at2
        simp only at a0 a1 a2 a3 z0 z1 z2 z3
        have hv : vdec (5 :: r) = some (⟨5, 0, ⟨#[]⟩, ofF m⟩, (5 :: r).drop 9) := by rw [vdec_5, if_neg (by omega), hm]; rfl
        rw [← hm] at hlt ⊢
        have HV := Lib.hid hv
        clear hv hm ht
        go_wp2_with fail
        refine (rof_any m (by omega) _).mono ?_
        rintro e w' ⟨rfl, rfl⟩
        go_wp2_with fail
        exact rval_done (x := ⟨5, 0, ⟨#[]⟩, ofF m⟩) HT2.out.same HT2.out.at2 (by omega) (Nat.le_refl _) (by omega) rfl rfl rfl (rsays_some 9 HV.out (by omega) (by rw [← HN.out]; omega) _ rfl)
      · obtain ⟨g, rfl⟩ : ∃ g, gk = g + 1 := ⟨gk - 1, by omega⟩
        have hj8 : j < 8 := by omega
        have hjr : j < r.length := by omega
        have hc := (HH.out.same HT2.out.same hb id).cells (j + 1) r[j] (by simp [hjr])
        have hN := beN_lt (r.take j)
        have hst := beN_snoc (r.take j) r[j]
        rw [← List.take_succ_eq_append_getElem hjr] at hst
        obtain ⟨c, hcc⟩ : ∃ c, c = r[j] := ⟨_, rfl⟩
        rw [← hcc] at hc hst
        have hbb := bits_or_byte (beN (r.take j)) c (Nat.lt_of_lt_of_le hN (Nat.pow_le_pow_right (by omega) (by simp; omega)))
        obtain ⟨m, hm⟩ : ∃ m, m = beN (r.take j) := ⟨_, rfl⟩
        rw [← hm] at hbb hst ⊢
        have HBB := Lib.hid hbb; have HST := Lib.hid hst; have HJ := Lib.hid hj
        clear hbb hst hcc hm hN hj h0 ht
        go_wp2_with fail
        go_roundg g
        case measure => omega
        case rel => exact ⟨j + 1, by have := HJ.out; omega, by go_num, by rw [HST.out, ← HBB.out], HT2.out⟩

set_option maxRecDepth 100000 in
set_option maxHeartbeats 4000000 in
theorem rval_str {w : World} {b0 off cap : Nat} {r : List UInt8} (h : RB w b0 off cap (3 :: r)) (hb : b0 < w.heap.size) (n : Nat) (hn : n = (3 :: r).length) (_hl : n ≤ 1000000) :
    Calls Try.prog 25 #[.slice (some ⟨b0, off, none⟩) n cap] w fun e w' => Same (fun _ => False) w w' ∧ RSays (3 :: r) e := by
  have hle : n ≤ cap := by rw [hn]; exact h.le
  have hmx := h.mx
  have hn1 : 1 ≤ n := by rw [hn]; simp
  unfold maxLen at hmx
  have hs1 : Same (fun _ => False) w (w.alloc V.nil.obj) := (Same.refl _ w).alloc _
  have hc0 := (h.same hs1 hb id).cells 0 3 rfl
  rw [Nat.add_zero] at hc0
  have HH := Lib.hid h
  obtain ⟨l, hl⟩ : ∃ l, l = 3 :: r := ⟨_, rfl⟩
  have hnl : l.length = n := by rw [hl, hn]
  have HT := Lib.hid (Two.start w ⟨3, 0, ⟨#[]⟩, 0⟩)
  have HN := Lib.hid hn; have HL := Lib.hid hl; have HNL := Lib.hid hnl
  clear h hn hs1 hl hnl
  go_enter Try.func25, Try.ntmps25
  go_wp2_with fail
  go_loopg [7, 8] (n - 1) (fun g s i wr => ∃ (j : Nat) (S : List UInt8), j + g = n ∧ 1 ≤ j ∧ i = .int .i64 (j : Int) ∧ Two w wr ⟨3, 0, ⟨#[]⟩, 0⟩ ∧ w.heap.size + 2 ≤ wr.heap.size ∧ S.length ≤ j ∧ wr.ownsRow (w.heap.size + 2) 5 1 s S.length (bytesV S) ∧
    tdec r = (tdec (l.drop j)).map fun p => (S ++ p.1, p.2))
  case atStart => exact ⟨1, [], by omega, Nat.le_refl _, rfl, HT.out, by simp, by simp, World.ownsRow_nil _ _ _ _, by rw [HL.out]; simp⟩
  case round =>
    obtain ⟨j, S, hj, hj1, rfl, ht, hws, hS, ho, hd⟩ := hrel
    have HT2 := Lib.hid ht; have HO := Lib.hid ho; have HD := Lib.hid hd; have HJ := Lib.hid hj
    have hb2 := lt_of_block ht.at2
    have hb4 := lt_of_block ht.at4
    obtain ⟨a0, a1, a2, a3⟩ := obj_cells ht.at4
    obtain ⟨z0, z1, z2, z3⟩ := obj_cells ht.at2
    have f6 := obj_free ht.at4
    have f2 := obj_free ht.at2
    simp only at a0 a1 a2 a3 z0 z1 z2 z3
    clear HT hd ho
    by_cases h0 : gk = 0
    · obtain rfl : j = n := by omega
      have hv : vdec (3 :: r) = none := vdec_text_none (by decide) (by rw [HD.out, tdec_drop_end (by rw [HNL.out]; omega)]; rfl)
      have HV := Lib.hid hv
      clear hv hj h0 ht
      go_wp2_with fail
      exact rval_end (x := ⟨3, 0, ⟨#[]⟩, 0⟩) HT2.out.same HT2.out.at2 (Nat.le_refl _) rfl rfl rfl (rsays_none HV.out _)
    · obtain ⟨g, rfl⟩ : ∃ g, gk = g + 1 := ⟨gk - 1, by omega⟩
      have hjn : j < n := by omega
      have hjl : j < l.length := by rw [HNL.out]; exact hjn
      have hrb := HH.out.same ht.same hb id
      rw [← HL.out] at hrb
      have hc := hrb.cells j l[j] (List.getElem?_eq_getElem hjl)
      obtain ⟨c, hcc⟩ : ∃ c, c = l[j] := ⟨_, rfl⟩
      rw [← hcc] at hc
      have hclt := c.toNat_lt
      have HCC := Lib.hid hcc
      by_cases hz : c = 0
      · have q0 : ((c.toNat : Int) == 0) = true := by rw [hz]; rfl
        have q0' : (c.toNat : Int) = 0 := by rw [hz]; rfl
        by_cases hend : j + 1 = n
        · have hv : vdec (3 :: r) = none := vdec_text_none (by decide) (by rw [HD.out, tdec_drop_end (by rw [HNL.out]; omega)]; rfl)
          have HV := Lib.hid hv
          have hend2 : (j : Int) + 1 = n := by omega
          clear hv hj h0 ht hz hcc hrb hend
          go_wp2_with fail
          exact rval_end (x := ⟨3, 0, ⟨#[]⟩, 0⟩) HT2.out.same HT2.out.at2 (Nat.le_refl _) rfl rfl rfl (rsays_none HV.out _)
        · have hj1l : j + 1 < l.length := by rw [HNL.out]; omega
          have hd2 := hrb.cells (j + 1) l[j + 1] (List.getElem?_eq_getElem hj1l)
          have htz := tdec_drop_zero hj1l (by rw [← hcc]; exact hz)
          obtain ⟨d, hdd⟩ : ∃ d, d = l[j + 1] := ⟨_, rfl⟩
          rw [← hdd] at hd2 htz
          have hdlt := d.toNat_lt
          have hne : ¬ (j : Int) + 1 = n := by omega
          have hne2 : ((j : Int) + 1 == (n : Int)) = false := by simp; omega
          have hlt2 : (j : Int) + 1 < n := by omega
          by_cases hd1 : d = 1
          · rw [if_pos hd1] at htz
            have q1 : ((d.toNat : Int) == 1) = true := by rw [hd1]; rfl
            have q1' : (d.toNat : Int) = 1 := by rw [hd1]; rfl
            have htd : tdec r = some (S, l.drop (j + 2)) := by rw [HD.out, htz]; simp
            have hcv := own_string HO.out
            have hu7 : ∃ ao cp, u7 = .slice ao S.length cp := by
              rcases HO.out.2 with ⟨e, h1⟩ | ⟨g', cap', cur, e, _⟩
              · exact ⟨none, 0, by rw [e, h1]⟩
              · exact ⟨_, _, e⟩
            obtain ⟨ao, cp, rfl⟩ := hu7
            obtain ⟨X, hX⟩ : ∃ X : ByteArray, X = ⟨S.toArray⟩ := ⟨_, rfl⟩
            rw [← hX] at hcv
            have hcv2 : ∀ u, (convert 23 9 (.slice ao S.length cp)).run Try.prog (wr.setCell ⟨w.heap.size + 1, 2, none⟩ u) = .ok (.string X) (wr.setCell ⟨w.heap.size + 1, 2, none⟩ u) := fun u => by
              rw [hX]
              exact own_string (((Same.refl (fun k => k = w.heap.size + 1) wr).setCell (p := ⟨w.heap.size + 1, 2, none⟩) (fun _ => rfl) u).row HO.out (fun k hk e => by have := (HO.out.lt k hk).1; omega))
            by_cases h60 : S.length ≤ 60
            · have hv : vdec (3 :: r) = some (⟨3, 0, X, 0⟩, (3 :: r).drop (j + 2)) := by rw [vdec_text_some (by decide) htd h60, hX, HL.out]; rfl
              have HV := Lib.hid hv
              have hg60 : ¬ (S.length : Int) > 60 := by omega
              clear hv hj h0 ht hz hcc hrb htz hd1 htd hX hdd
              go_wp2_with fail
              exact rval_done (x := ⟨3, 0, X, 0⟩) HT2.out.same HT2.out.at2 (by omega) (Nat.le_refl _) (by omega) rfl rfl rfl (rsays_some (j + 2) HV.out (by omega) (by rw [← HN.out]; omega) _ (by omega))
            · have hv : vdec (3 :: r) = none := vdec_text_long (by decide) htd h60
              have HV := Lib.hid hv
              have hg60 : (S.length : Int) > 60 := by omega
              clear hv hj h0 ht hz hcc hrb htz hd1 htd hX hdd
              go_wp2_with fail
              exact rval_done (x := ⟨3, 0, X, 0⟩) HT2.out.same HT2.out.at2 (by omega) (Nat.le_refl _) (by omega) rfl rfl rfl (rsays_none HV.out _)
          · rw [if_neg hd1] at htz
            have hd1n : d.toNat ≠ 1 := fun e => hd1 (UInt8.toNat_inj.1 e)
            have q1 : ((d.toNat : Int) == 1) = false := by simp; omega
            have q1' : ¬ (d.toNat : Int) = 1 := by omega
            by_cases hd255 : d = 255
            · rw [if_pos hd255] at htz
              have q2 : ((d.toNat : Int) == 255) = true := by rw [hd255]; rfl
              have q2' : (d.toNat : Int) = 255 := by rw [hd255]; rfl
              have htd : tdec r = (tdec (l.drop (j + 2))).map fun p => ((S ++ [0]) ++ p.1, p.2) := by
                rw [HD.out, htz, Option.map_map]; congr 1; funext p; simp
              have HTD := Lib.hid htd
              clear hj h0 ht hz hcc hrb htz hd1 htd hdd hd255 hd1n
              go_wp2_with (at_builtin; refine wpList_append_elem wr rfl (.tmp 123) (.tmp 124) 23 rfl (w.heap.size + 2) 5 (.int .u8 0) 1 1 Try.underlying23 byte_info rfl (by decide) u7 S.length (bytesV S) rfl HO.out [.int .u8 0] _ rfl rfl ?e1 ?e2 ?e3 ?e4 ?_)
              case e1 => first | rfl | (intro u hu; simp at hu; subst hu; rfl)
              case e2 => unfold maxLen; omega
              case e3 => omega
              case e4 => omega
              intro g5 cap5 w5 hown hgrow hwhere hgl5 hsl5
              have hb3 := Bytes.app (b := 0) hown hgrow hwhere
              have ht3 := HT2.out.next hb3.same (fun k hk => (HO.out.lt k hk).1)
              have hsz3 := hb3.same.size
              have HB3 := Lib.hid hb3.own; have HT3 := Lib.hid ht3
              clear hown hgrow hwhere hb3 ht3
              go_wp2_with fail
              go_roundg (g - 1)
              case measure => omega
              case rel => exact ⟨j + 2, S ++ [0], by have := HJ.out; omega, by omega, by go_num, HT3.out, by omega, by simp; omega, HB3.out, HTD.out⟩
            · rw [if_neg hd255] at htz
              have hd2n : d.toNat ≠ 255 := fun e => hd255 (UInt8.toNat_inj.1 e)
              have q2 : ((d.toNat : Int) == 255) = false := by simp; omega
              have q2' : ¬ (d.toNat : Int) = 255 := by omega
              have p1 : ((d.toNat : Int) != 1) = true := by simp; omega
              have p2 : ((d.toNat : Int) != 255) = true := by simp; omega
              have hv : vdec (3 :: r) = none := vdec_text_none (by decide) (by rw [HD.out, htz]; rfl)
              have HV := Lib.hid hv
              clear hv hj h0 ht hz hcc hrb htz hd1 hdd hd255 hd1n hd2n
              go_wp2_with fail
              exact rval_end (x := ⟨3, 0, ⟨#[]⟩, 0⟩) HT2.out.same HT2.out.at2 (Nat.le_refl _) rfl rfl rfl (rsays_none HV.out _)
      · have hnz : c.toNat ≠ 0 := fun e => hz (UInt8.toNat_inj.1 e)
        have q0 : ((c.toNat : Int) == 0) = false := by simp; omega
        have q0' : ¬ (c.toNat : Int) = 0 := by omega
        have htd : tdec r = (tdec (l.drop (j + 1))).map fun p => ((S ++ [c]) ++ p.1, p.2) := by
          rw [HD.out, tdec_drop_ne hjl (by rw [← hcc]; exact hz), Option.map_map, ← hcc]; congr 1; funext p; simp
        have HTD := Lib.hid htd
        clear hj h0 ht hz hcc hrb htd hnz
        go_wp2_with (at_builtin; refine wpList_append_elem wr rfl (.tmp 78) (.tmp 83) 23 rfl (w.heap.size + 2) 5 (.int .u8 0) 1 1 Try.underlying23 byte_info rfl (by decide) u7 S.length (bytesV S) rfl HO.out [.int .u8 (c.toNat : Int)] _ rfl rfl ?d1 ?d2 ?d3 ?d4 ?_)
        case d1 => first | rfl | (intro u hu; simp at hu; subst hu; rfl)
        case d2 => unfold maxLen; omega
        case d3 => omega
        case d4 => omega
        intro g5 cap5 w5 hown hgrow hwhere hgl5 hsl5
        have hb3 := Bytes.app (b := c) hown hgrow hwhere
        have ht3 := HT2.out.next hb3.same (fun k hk => (HO.out.lt k hk).1)
        have hsz3 := hb3.same.size
        have HB3 := Lib.hid hb3.own; have HT3 := Lib.hid ht3
        clear hown hgrow hwhere hb3 ht3
        go_wp2_with fail
        go_roundg g
        case measure => omega
        case rel => exact ⟨j + 1, S ++ [c], by have := HJ.out; omega, by omega, by go_num, HT3.out, by omega, by simp; omega, HB3.out, HTD.out⟩

set_option maxRecDepth 100000 in
set_option maxHeartbeats 4000000 in
theorem rval_bytes {w : World} {b0 off cap : Nat} {r : List UInt8} (h : RB w b0 off cap (4 :: r)) (hb : b0 < w.heap.size) (n : Nat) (hn : n = (4 :: r).length) (_hl : n ≤ 1000000) :
    Calls Try.prog 25 #[.slice (some ⟨b0, off, none⟩) n cap] w fun e w' => Same (fun _ => False) w w' ∧ RSays (4 :: r) e := by
  have hle : n ≤ cap := by rw [hn]; exact h.le
  have hmx := h.mx
  have hn1 : 1 ≤ n := by rw [hn]; simp
  unfold maxLen at hmx
  have hs1 : Same (fun _ => False) w (w.alloc V.nil.obj) := (Same.refl _ w).alloc _
  have hc0 := (h.same hs1 hb id).cells 0 4 rfl
  rw [Nat.add_zero] at hc0
  have HH := Lib.hid h
  obtain ⟨l, hl⟩ : ∃ l, l = 4 :: r := ⟨_, rfl⟩
  have hnl : l.length = n := by rw [hl, hn]
  have HT := Lib.hid (Two.start w ⟨4, 0, ⟨#[]⟩, 0⟩)
  have HN := Lib.hid hn; have HL := Lib.hid hl; have HNL := Lib.hid hnl
  clear h hn hs1 hl hnl
  go_enter Try.func25, Try.ntmps25
  go_wp2_with fail
  go_loopg [7, 8] (n - 1) (fun g s i wr => ∃ (j : Nat) (S : List UInt8), j + g = n ∧ 1 ≤ j ∧ i = .int .i64 (j : Int) ∧ Two w wr ⟨4, 0, ⟨#[]⟩, 0⟩ ∧ w.heap.size + 2 ≤ wr.heap.size ∧ S.length ≤ j ∧ wr.ownsRow (w.heap.size + 2) 5 1 s S.length (bytesV S) ∧
    tdec r = (tdec (l.drop j)).map fun p => (S ++ p.1, p.2))
  case atStart => exact ⟨1, [], by omega, Nat.le_refl _, rfl, HT.out, by simp, by simp, World.ownsRow_nil _ _ _ _, by rw [HL.out]; simp⟩
  case round =>
    obtain ⟨j, S, hj, hj1, rfl, ht, hws, hS, ho, hd⟩ := hrel
    have HT2 := Lib.hid ht; have HO := Lib.hid ho; have HD := Lib.hid hd; have HJ := Lib.hid hj
    have hb2 := lt_of_block ht.at2
    have hb4 := lt_of_block ht.at4
    obtain ⟨a0, a1, a2, a3⟩ := obj_cells ht.at4
    obtain ⟨z0, z1, z2, z3⟩ := obj_cells ht.at2
    have f6 := obj_free ht.at4
    have f2 := obj_free ht.at2
    simp only at a0 a1 a2 a3 z0 z1 z2 z3
    clear HT hd ho
    by_cases h0 : gk = 0
    · obtain rfl : j = n := by omega
      have hv : vdec (4 :: r) = none := vdec_text_none (by decide) (by rw [HD.out, tdec_drop_end (by rw [HNL.out]; omega)]; rfl)
      have HV := Lib.hid hv
      clear hv hj h0 ht
      go_wp2_with fail
      exact rval_end (x := ⟨4, 0, ⟨#[]⟩, 0⟩) HT2.out.same HT2.out.at2 (Nat.le_refl _) rfl rfl rfl (rsays_none HV.out _)
    · obtain ⟨g, rfl⟩ : ∃ g, gk = g + 1 := ⟨gk - 1, by omega⟩
      have hjn : j < n := by omega
      have hjl : j < l.length := by rw [HNL.out]; exact hjn
      have hrb := HH.out.same ht.same hb id
      rw [← HL.out] at hrb
      have hc := hrb.cells j l[j] (List.getElem?_eq_getElem hjl)
      obtain ⟨c, hcc⟩ : ∃ c, c = l[j] := ⟨_, rfl⟩
      rw [← hcc] at hc
      have hclt := c.toNat_lt
      have HCC := Lib.hid hcc
      by_cases hz : c = 0
      · have q0 : ((c.toNat : Int) == 0) = true := by rw [hz]; rfl
        have q0' : (c.toNat : Int) = 0 := by rw [hz]; rfl
        by_cases hend : j + 1 = n
        · have hv : vdec (4 :: r) = none := vdec_text_none (by decide) (by rw [HD.out, tdec_drop_end (by rw [HNL.out]; omega)]; rfl)
          have HV := Lib.hid hv
          have hend2 : (j : Int) + 1 = n := by omega
          clear hv hj h0 ht hz hcc hrb hend
          go_wp2_with fail
          exact rval_end (x := ⟨4, 0, ⟨#[]⟩, 0⟩) HT2.out.same HT2.out.at2 (Nat.le_refl _) rfl rfl rfl (rsays_none HV.out _)
        · have hj1l : j + 1 < l.length := by rw [HNL.out]; omega
          have hd2 := hrb.cells (j + 1) l[j + 1] (List.getElem?_eq_getElem hj1l)
          have htz := tdec_drop_zero hj1l (by rw [← hcc]; exact hz)
          obtain ⟨d, hdd⟩ : ∃ d, d = l[j + 1] := ⟨_, rfl⟩
          rw [← hdd] at hd2 htz
          have hdlt := d.toNat_lt
          have hne : ¬ (j : Int) + 1 = n := by omega
          have hne2 : ((j : Int) + 1 == (n : Int)) = false := by simp; omega
          have hlt2 : (j : Int) + 1 < n := by omega
          by_cases hd1 : d = 1
          · rw [if_pos hd1] at htz
            have q1 : ((d.toNat : Int) == 1) = true := by rw [hd1]; rfl
            have q1' : (d.toNat : Int) = 1 := by rw [hd1]; rfl
            have htd : tdec r = some (S, l.drop (j + 2)) := by rw [HD.out, htz]; simp
            have hcv := own_string HO.out
            have hu7 : ∃ ao cp, u7 = .slice ao S.length cp := by
              rcases HO.out.2 with ⟨e, h1⟩ | ⟨g', cap', cur, e, _⟩
              · exact ⟨none, 0, by rw [e, h1]⟩
              · exact ⟨_, _, e⟩
            obtain ⟨ao, cp, rfl⟩ := hu7
            obtain ⟨X, hX⟩ : ∃ X : ByteArray, X = ⟨S.toArray⟩ := ⟨_, rfl⟩
            rw [← hX] at hcv
            have hcv2 : ∀ u, (convert 23 9 (.slice ao S.length cp)).run Try.prog (wr.setCell ⟨w.heap.size + 1, 2, none⟩ u) = .ok (.string X) (wr.setCell ⟨w.heap.size + 1, 2, none⟩ u) := fun u => by
              rw [hX]
              exact own_string (((Same.refl (fun k => k = w.heap.size + 1) wr).setCell (p := ⟨w.heap.size + 1, 2, none⟩) (fun _ => rfl) u).row HO.out (fun k hk e => by have := (HO.out.lt k hk).1; omega))
            by_cases h60 : S.length ≤ 60
            · have hv : vdec (4 :: r) = some (⟨4, 0, X, 0⟩, (4 :: r).drop (j + 2)) := by rw [vdec_text_some (by decide) htd h60, hX, HL.out]; rfl
              have HV := Lib.hid hv
              have hg60 : ¬ (S.length : Int) > 60 := by omega
              clear hv hj h0 ht hz hcc hrb htz hd1 htd hX hdd
              go_wp2_with fail
              exact rval_done (x := ⟨4, 0, X, 0⟩) HT2.out.same HT2.out.at2 (by omega) (Nat.le_refl _) (by omega) rfl rfl rfl (rsays_some (j + 2) HV.out (by omega) (by rw [← HN.out]; omega) _ (by omega))
            · have hv : vdec (4 :: r) = none := vdec_text_long (by decide) htd h60
              have HV := Lib.hid hv
              have hg60 : (S.length : Int) > 60 := by omega
              clear hv hj h0 ht hz hcc hrb htz hd1 htd hX hdd
              go_wp2_with fail
              exact rval_done (x := ⟨4, 0, X, 0⟩) HT2.out.same HT2.out.at2 (by omega) (Nat.le_refl _) (by omega) rfl rfl rfl (rsays_none HV.out _)
          · rw [if_neg hd1] at htz
            have hd1n : d.toNat ≠ 1 := fun e => hd1 (UInt8.toNat_inj.1 e)
            have q1 : ((d.toNat : Int) == 1) = false := by simp; omega
            have q1' : ¬ (d.toNat : Int) = 1 := by omega
            by_cases hd255 : d = 255
            · rw [if_pos hd255] at htz
              have q2 : ((d.toNat : Int) == 255) = true := by rw [hd255]; rfl
              have q2' : (d.toNat : Int) = 255 := by rw [hd255]; rfl
              have htd : tdec r = (tdec (l.drop (j + 2))).map fun p => ((S ++ [0]) ++ p.1, p.2) := by
                rw [HD.out, htz, Option.map_map]; congr 1; funext p; simp
              have HTD := Lib.hid htd
              clear hj h0 ht hz hcc hrb htz hd1 htd hdd hd255 hd1n
              go_wp2_with (at_builtin; refine wpList_append_elem wr rfl (.tmp 123) (.tmp 124) 23 rfl (w.heap.size + 2) 5 (.int .u8 0) 1 1 Try.underlying23 byte_info rfl (by decide) u7 S.length (bytesV S) rfl HO.out [.int .u8 0] _ rfl rfl ?e1 ?e2 ?e3 ?e4 ?_)
              case e1 => first | rfl | (intro u hu; simp at hu; subst hu; rfl)
              case e2 => unfold maxLen; omega
              case e3 => omega
              case e4 => omega
              intro g5 cap5 w5 hown hgrow hwhere hgl5 hsl5
              have hb3 := Bytes.app (b := 0) hown hgrow hwhere
              have ht3 := HT2.out.next hb3.same (fun k hk => (HO.out.lt k hk).1)
              have hsz3 := hb3.same.size
              have HB3 := Lib.hid hb3.own; have HT3 := Lib.hid ht3
              clear hown hgrow hwhere hb3 ht3
              go_wp2_with fail
              go_roundg (g - 1)
              case measure => omega
              case rel => exact ⟨j + 2, S ++ [0], by have := HJ.out; omega, by omega, by go_num, HT3.out, by omega, by simp; omega, HB3.out, HTD.out⟩
            · rw [if_neg hd255] at htz
              have hd2n : d.toNat ≠ 255 := fun e => hd255 (UInt8.toNat_inj.1 e)
              have q2 : ((d.toNat : Int) == 255) = false := by simp; omega
              have q2' : ¬ (d.toNat : Int) = 255 := by omega
              have p1 : ((d.toNat : Int) != 1) = true := by simp; omega
              have p2 : ((d.toNat : Int) != 255) = true := by simp; omega
              have hv : vdec (4 :: r) = none := vdec_text_none (by decide) (by rw [HD.out, htz]; rfl)
              have HV := Lib.hid hv
              clear hv hj h0 ht hz hcc hrb htz hd1 hdd hd255 hd1n hd2n
              go_wp2_with fail
              exact rval_end (x := ⟨4, 0, ⟨#[]⟩, 0⟩) HT2.out.same HT2.out.at2 (Nat.le_refl _) rfl rfl rfl (rsays_none HV.out _)
      · have hnz : c.toNat ≠ 0 := fun e => hz (UInt8.toNat_inj.1 e)
        have q0 : ((c.toNat : Int) == 0) = false := by simp; omega
        have q0' : ¬ (c.toNat : Int) = 0 := by omega
        have htd : tdec r = (tdec (l.drop (j + 1))).map fun p => ((S ++ [c]) ++ p.1, p.2) := by
          rw [HD.out, tdec_drop_ne hjl (by rw [← hcc]; exact hz), Option.map_map, ← hcc]; congr 1; funext p; simp
        have HTD := Lib.hid htd
        clear hj h0 ht hz hcc hrb htd hnz
        go_wp2_with (at_builtin; refine wpList_append_elem wr rfl (.tmp 78) (.tmp 83) 23 rfl (w.heap.size + 2) 5 (.int .u8 0) 1 1 Try.underlying23 byte_info rfl (by decide) u7 S.length (bytesV S) rfl HO.out [.int .u8 (c.toNat : Int)] _ rfl rfl ?d1 ?d2 ?d3 ?d4 ?_)
        case d1 => first | rfl | (intro u hu; simp at hu; subst hu; rfl)
        case d2 => unfold maxLen; omega
        case d3 => omega
        case d4 => omega
        intro g5 cap5 w5 hown hgrow hwhere hgl5 hsl5
        have hb3 := Bytes.app (b := c) hown hgrow hwhere
        have ht3 := HT2.out.next hb3.same (fun k hk => (HO.out.lt k hk).1)
        have hsz3 := hb3.same.size
        have HB3 := Lib.hid hb3.own; have HT3 := Lib.hid ht3
        clear hown hgrow hwhere hb3 ht3
        go_wp2_with fail
        go_roundg g
        case measure => omega
        case rel => exact ⟨j + 1, S ++ [c], by have := HJ.out; omega, by omega, by go_num, HT3.out, by omega, by simp; omega, HB3.out, HTD.out⟩

set_option maxRecDepth 100000 in
set_option maxHeartbeats 4000000 in
theorem rval_other {w : World} {b0 off cap : Nat} {k : UInt8} {r : List UInt8} (h : RB w b0 off cap (k :: r)) (hb : b0 < w.heap.size) (h1 : k ≠ 1) (h2 : k ≠ 2) (h3 : k ≠ 3) (h4 : k ≠ 4) (h5 : k ≠ 5) (n : Nat) (hn : n = (k :: r).length) (_hl : n ≤ 1000000) :
    Calls Try.prog 25 #[.slice (some ⟨b0, off, none⟩) n cap] w fun e w' => Same (fun _ => False) w w' ∧ RSays (k :: r) e := by
  have hle : n ≤ cap := by rw [hn]; exact h.le
  have hmx := h.mx
  have hn1 : 1 ≤ n := by rw [hn]; simp
  unfold maxLen at hmx
  have hs1 : Same (fun _ => False) w (w.alloc V.nil.obj) := (Same.refl _ w).alloc _
  have hc0 := (h.same hs1 hb id).cells 0 k rfl
  rw [Nat.add_zero] at hc0
  have HT := Lib.hid (Two.start w ⟨k.toNat, 0, ⟨#[]⟩, 0⟩)
  have hv : vdec (k :: r) = none := by simp [vdec, h1, h2, h3, h4, h5]
  have HV := Lib.hid hv
  have hk := k.toNat_lt
  have q1 : ((k.toNat : Int) == 1) = false := by have : k.toNat ≠ 1 := fun e => h1 (UInt8.toNat_inj.1 e); simp; omega
  have q2 : ((k.toNat : Int) == 2) = false := by have : k.toNat ≠ 2 := fun e => h2 (UInt8.toNat_inj.1 e); simp; omega
  have q3 : ((k.toNat : Int) == 3) = false := by have : k.toNat ≠ 3 := fun e => h3 (UInt8.toNat_inj.1 e); simp; omega
  have q4 : ((k.toNat : Int) == 4) = false := by have : k.toNat ≠ 4 := fun e => h4 (UInt8.toNat_inj.1 e); simp; omega
  have q5 : ((k.toNat : Int) == 5) = false := by have : k.toNat ≠ 5 := fun e => h5 (UInt8.toNat_inj.1 e); simp; omega
  have hX : wrap64 (k.toNat : Int) = k.toNat := by unfold wrap64; omega
  clear h hn hs1 hv h1 h2 h3 h4 h5
  go_enter Try.func25, Try.ntmps25
  go_wp2_with fail
  exact rval_fresh (x := ⟨k.toNat, 0, ⟨#[]⟩, 0⟩) rfl rfl rfl (rsays_none HV.out _)

theorem rval_any {w : World} {b0 off cap : Nat} {l : List UInt8} (h : RB w b0 off cap l) (hb : b0 < w.heap.size) (h0 : l ≠ []) (hl : l.length ≤ 1000000) :
    Calls Try.prog 25 #[.slice (some ⟨b0, off, none⟩) l.length cap] w fun e w' => Same (fun _ => False) w w' ∧ RSays l e := by
  cases l with
  | nil => exact absurd rfl h0
  | cons k r =>
    by_cases h1 : k = 1
    · subst h1; exact rval_int h hb _ rfl hl
    by_cases h2 : k = 2
    · subst h2; exact rval_bool h hb _ rfl hl
    by_cases h3 : k = 3
    · subst h3; exact rval_str h hb _ rfl hl
    by_cases h4 : k = 4
    · subst h4; exact rval_bytes h hb _ rfl hl
    by_cases h5 : k = 5
    · subst h5; exact rval_float h hb _ rfl hl
    exact rval_other h hb h1 h2 h3 h4 h5 _ rfl hl

end Go.Proofs.Ytmdkfbbagjcboaa
