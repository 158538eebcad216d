/-
  The statement UndoDoes: what is done within the log, by how it ends: what it leaves. Conditions: none.
-/
import Derived.Test.YthofmccpfknjnaaDoorUndoDoesW1
namespace Go.Proofs.YthofmccpfknjnaaDoor
open Go.RowKit
set_option maxRecDepth 100000

theorem does1_calls (cap : Array Value) (w : World) : (callFunc 17 cap).run Tryd.prog w = .ok (.enter 17 cap) w := by kernel_rfl
theorem does2_calls (cap : Array Value) (w : World) : (callFunc 9 cap).run Tryd.prog w = .ok (.enter 9 cap) w := by kernel_rfl

set_option maxHeartbeats 4000000 in
/-- The catching call, where Do returns. -/
theorem does_ret {w : World} {p : Nat} {fn : FuncId} {cap : Array Value} {v : Value} {Q : World → Prop}
    (hDo : Calls Tryd.prog 18 #[pB p, .func (.func fn) #[] cap] (w.alloc (.cells #[.int .i64 0] 3)) fun e w' => e = .returned v ∧ Q w' ∧ One w' w.heap.size (.int .i64 0) 3) :
    Calls Tryd.prog 8 #[pB p, .func (.func fn) #[] cap] w fun e w' => e = .returned (.tuple #[v, .int .i64 0]) ∧ ∃ w1, Q w1 ∧ One w1 w.heap.size (.int .i64 0) 3 ∧ w' = w1.setCell ⟨w.heap.size, 0, none⟩ (.int .i64 0) := by
  have HD := Lib.hid hDo
  clear hDo
  go_enter_defers Tryd.func8, Tryd.ntmps8
  go_wp2_with fail
  refine HD.out.mono ?_
  rintro e w2 ⟨rfl, hq, ho⟩
  have c0 := ho.cell
  have f0 := ho.free
  have HQ := Lib.hid hq; have HO := Lib.hid ho
  clear hq ho HD
  go_wp2_with fail
  refine leaves_cons (f := 17) (args := #[.pointer (some ⟨w.heap.size, 0, none⟩)]) (by simp) (by simp only [invoke, Array.empty_append]; exact does1_calls _ _) ?_
  refine (does1_idle _ _).mono ?_
  rintro e u' w3 ⟨rfl, rfl, rfl⟩
  have hc := (HO.out.setCell (.int .i64 0)).cell
  simp [Leaves, settle, results, Tryd.results8, go_sem, hc]
  exact ⟨w2, HQ.out, HO.out, rfl⟩

set_option maxHeartbeats 4000000 in
/-- The catching call, where Do panics. -/
theorem does_pan {w : World} {p : Nat} {fn : FuncId} {cap : Array Value} {n : Int} {Q : World → Prop}
    (hDo : Calls Tryd.prog 18 #[pB p, .func (.func fn) #[] cap] (w.alloc (.cells #[.int .i64 0] 3)) fun e w' => e = .panicked [{ v := .iface 3 (.int .i64 n), recovered := false }, { v := .iface 3 (.int .i64 n), recovered := true }] ∧ Q w' ∧ One w' w.heap.size (.int .i64 0) 3) :
    Calls Tryd.prog 8 #[pB p, .func (.func fn) #[] cap] w fun e w' => e = .returned (.tuple #[.nilIface, .int .i64 n]) ∧ ∃ w1, Q w1 ∧ One w1 w.heap.size (.int .i64 0) 3 ∧ w' = w1.setCell ⟨w.heap.size, 0, none⟩ (.int .i64 n) := by
  have HD := Lib.hid hDo
  clear hDo
  go_enter_defers Tryd.func8, Tryd.ntmps8
  go_wp2_with fail
  refine HD.out.mono ?_
  rintro e w2 ⟨rfl, hq, ho⟩
  have HQ := Lib.hid hq; have HO := Lib.hid ho
  clear hq ho HD
  go_wp2_with fail
  refine leaves_cons (f := 17) (args := #[.pointer (some ⟨w.heap.size, 0, none⟩)]) (by simp) (by simp only [invoke, Array.empty_append]; exact does1_calls _ _) ?_
  refine (does1_catch HO.out).mono ?_
  rintro e u' w3 ⟨rfl, rfl, rfl⟩
  have hc := (HO.out.setCell (.int .i64 n)).cell
  simp [Leaves, settle, results, Tryd.results8, go_sem, hc]
  exact ⟨w2, HQ.out, HO.out, rfl⟩

/-- What is left when all that was added has been called back. -/
def Gone (w0 : World) (B p gb a b : Nat) (Cs : List (Nat × Obj)) (w : World) : Prop :=
  PInv w0 B p gb (.slice none 0 0) (.slice none 0 0) [] [] [] [] (nums b).reverse w ∧ Stays p Cs w ∧ LogAt w B p (List.replicate a (oneF gb))

section
variable {w0 w w' : World} {B p gb a b bb lb hb : Nat} {how : Int} {Cs Ds : List (Nat × Obj)}

theorem PInv.set {wv mv : Value} {N W : List Int} {X : List Nat} {M G : List Int} (h : PInv w0 B p gb wv mv N W X M G w) {r : Nat} {old u : Value} {t : TypeId} (ho : One w r old t) (hr : B ≤ r) (hp : r ≠ p) (h1 : t ≠ 2) (h2 : t ≠ 25) : PInv w0 B p gb wv mv N W X M G (w.setCell ⟨r, 0, none⟩ u) := by
  obtain ⟨gv, g1, g2, g3, g4⟩ := h.got
  have hs : Same (fun k => k = r) w (w.setCell ⟨r, 0, none⟩ u) := (Same.refl (fun k => k = r) w).setCell (p := ⟨r, 0, none⟩) (fun _ => rfl) u
  have hne : ∀ {b : Nat} {v : Value} {t' : TypeId}, One w b v t' → t ≠ t' → b ≠ r := fun hb ht e => by
    subst e
    have := hb.symm.trans ho
    simp at this
    exact ht this.2.symm
  have hown : ∀ {v : Value} {n : Nat} {xs : List Value}, w.ownsRow B 2 1 v n xs → ∀ k, v.ownBlock = some k → ¬ k = r := fun hv k hk e => by
    subst e
    exact own_ne hv ho h1 hk
  exact { below := hs.below h.below h.size (fun k hk => hk ▸ hr), gbB := h.gbB, XB := h.XB, size := Nat.le_trans h.size hs.size, len := h.len
          xs := fun j b x hj hx => hs.one (h.xs j b x hj hx) (hne (h.xs j b x hj hx) h1)
          lt := fun b hb => Nat.lt_of_lt_of_le (h.lt b hb) hs.size
          gp := h.gp, Xp := h.Xp
          got := ⟨gv, hs.one g1 (hne g1 h2), hs.row g2 (hown g2), g3, g4⟩
          want := hs.row h.want (hown h.want), m := hs.row h.m (hown h.m), xw := h.xw, xm := h.xm, wm := h.wm, room := h.room }

theorem DoesAt.less (h : DoesAt w0 B p gb a Cs b w) (hd : ∀ x ∈ Ds, x ∈ Cs) : DoesAt w0 B p gb a Ds b w := let ⟨X, h1, h2, h3⟩ := h; ⟨X, h1, h2.less hd, h3⟩

theorem Stays.set (h : Stays p Cs w) {r : Nat} (hr : ∀ x ∈ Cs, x.1 ≠ r) (u : Value) : Stays p Cs (w.setCell ⟨r, 0, none⟩ u) :=
  h.same ((Same.refl (fun k => k = r) w).setCell (p := ⟨r, 0, none⟩) (fun _ => rfl) u) hr

theorem DoesAt.set (h : DoesAt w0 B p gb a Cs b w) {r : Nat} {old u : Value} {t : TypeId} (ho : One w r old t) (hB : B ≤ r) (hp : r ≠ p) (h1 : t ≠ 2) (h2 : t ≠ 25) (h3 : t ≠ 1) (hr : ∀ x ∈ Cs, x.1 ≠ r) : DoesAt w0 B p gb a Cs b (w.setCell ⟨r, 0, none⟩ u) :=
  let ⟨X, a1, a2, a3⟩ := h
  ⟨X, a1.set ho hB hp h1 h2, a2.set hr u, a3.setCell ho hp (fun cur e => by cases e; exact h3 rfl) u⟩

theorem Gone.set (h : Gone w0 B p gb a b Cs w) {r : Nat} {old u : Value} {t : TypeId} (ho : One w r old t) (hB : B ≤ r) (hp : r ≠ p) (h1 : t ≠ 2) (h2 : t ≠ 25) (h3 : t ≠ 1) (hr : ∀ x ∈ Cs, x.1 ≠ r) : Gone w0 B p gb a b Cs (w.setCell ⟨r, 0, none⟩ u) :=
  let ⟨a1, a2, a3⟩ := h
  ⟨a1.set ho hB hp h1 h2, a2.set hr u, a3.setCell ho hp (fun cur e => by cases e; exact h3 rfl) u⟩

theorem Stays.more (h : Stays p Cs w) (hd : Stays p Ds w) : Stays p (Ds ++ Cs) w := fun x hx => (List.mem_append.1 hx).elim (hd x) (h x)

theorem DoesAt.same (h : DoesAt w0 B p gb a Cs b w) (hs : Same (fun _ => False) w w') : DoesAt w0 B p gb a Cs b w' :=
  let ⟨X, a1, a2, a3⟩ := h
  ⟨X, a1.same hs, a2.same hs (fun _ _ => id), a3.kept (fun k hk _ => hs.block k hk id)⟩

theorem DoesAt.more (h : DoesAt w0 B p gb a Cs b w) (hd : Stays p Ds w) : DoesAt w0 B p gb a (Ds ++ Cs) b w := let ⟨X, a1, a2, a3⟩ := h; ⟨X, a1, a2.more hd, a3⟩

theorem stays_one {r : Nat} {v : Value} {t : TypeId} (ho : One w r v t) (hp : r ≠ p) (h1 : t ≠ 2) (h2 : t ≠ 25) (h3 : t ≠ 1) : Stays p [(r, .cells #[v] t (0, 0))] w := fun x hx => by
  simp only [List.mem_cons, List.not_mem_nil, or_false] at hx
  subst hx
  exact ⟨ho, hp, v, t, rfl, h1, h2, h3⟩

theorem DoesAt.size (h : DoesAt w0 B p gb a Cs b w) : B ≤ w.heap.size ∧ p < w.heap.size ∧ ∀ x ∈ Cs, x.1 < w.heap.size :=
  let ⟨_, a1, a2, _⟩ := h
  ⟨a1.size, a1.lt p (by simp), fun x hx => lt_of_block (a2 x hx).1⟩

abbrev boxR (r : Nat) : Nat × Obj := (r, .cells #[.int .i64 0] 3 (0, 0))
abbrev box3 (s p a : Nat) : List (Nat × Obj) := [(s, .cells #[pB p] 23 (0, 0)), (s + 1, .cells #[.int .i64 a] 3 (0, 0)), (s + 2, .cells #[.bool false] 4 (0, 0))]

/-- The blocks of the catching call and of Do stay too. -/
theorem DoesAt.within (h : DoesAt w0 B p gb a Cs 0 w) : DoesAt w0 B p gb a (box3 (w.heap.size + 1) p a ++ (boxR w.heap.size :: Cs)) 0 (doWorld (w.alloc (.cells #[.int .i64 0] 3)) p a) := by
  obtain ⟨_, hp, _⟩ := h.size
  have h1 : DoesAt w0 B p gb a (boxR w.heap.size :: Cs) 0 (w.alloc (.cells #[.int .i64 0] 3)) :=
    (h.same ((Same.refl _ w).alloc _)).more (stays_one (One.new w _ _) (by omega) (by decide) (by decide) (by decide))
  have hsz : (w.alloc (.cells #[.int .i64 0] 3)).heap.size = w.heap.size + 1 := by simp
  have e1 := do_l (w.alloc (.cells #[.int .i64 0] 3)) p a
  have e2 := do_m (w.alloc (.cells #[.int .i64 0] 3)) p a
  have e3 := do_w (w.alloc (.cells #[.int .i64 0] 3)) p a
  rw [hsz] at e1 e2 e3
  refine (h1.same (do_same _ p a)).more (fun x hx => ?_)
  simp only [List.mem_cons, List.not_mem_nil, or_false] at hx
  rcases hx with rfl | rfl | rfl
  · exact ⟨e1, by simp only; omega, _, _, rfl, by decide, by decide, by decide⟩
  · exact ⟨e2, by simp only; omega, _, _, rfl, by decide, by decide, by decide⟩
  · exact ⟨e3, by simp only; omega, _, _, rfl, by decide, by decide, by decide⟩

theorem does_call (ha : a ≤ 20) (hb20 : b ≤ 20) (h : DoesAt w0 B p gb a Cs 0 w) (hbb : (bb, .cells #[.int .i64 b] 3 (0, 0)) ∈ Cs) (hlb : (lb, .cells #[pB p] 23 (0, 0)) ∈ Cs) (hhb : (hb, .cells #[.int .i64 how] 3 (0, 0)) ∈ Cs) :
    Calls Tryd.prog 9 #[pB bb, pB lb, pB gb, pB hb] (doWorld (w.alloc (.cells #[.int .i64 0] 3)) p (List.replicate a (oneF gb)).length) fun e w' => DoesEnd how e ∧ DoesAt w0 B p gb a (box3 (w.heap.size + 1) p a ++ (boxR w.heap.size :: Cs)) b w' := by
  rw [List.length_replicate]
  exact does2_any ha hb20 h.within (List.mem_append_right _ (List.mem_cons_of_mem _ hbb)) (List.mem_append_right _ (List.mem_cons_of_mem _ hlb)) (List.mem_append_right _ (List.mem_cons_of_mem _ hhb))

theorem DoesAt.log0 (h : DoesAt w0 B p gb a Cs 0 w) : LogAt w B p (List.replicate a (oneF gb)) := by
  obtain ⟨X, a1, _, a3⟩ := h
  have : X = [] := List.eq_nil_of_length_eq_zero (a1.len.trans (nums_length 0))
  subst this
  simpa using a3

/-- Where nothing goes wrong. -/
theorem does_well (ha : a ≤ 20) (hb20 : b ≤ 20) (h : DoesAt w0 B p gb a Cs 0 w) (hbb : (bb, .cells #[.int .i64 b] 3 (0, 0)) ∈ Cs) (hlb : (lb, .cells #[pB p] 23 (0, 0)) ∈ Cs) (hhb : (hb, .cells #[.int .i64 how] 3 (0, 0)) ∈ Cs) (h1 : how % 4 ≠ 1) (h2 : how % 4 ≠ 2) :
    Calls Tryd.prog 8 #[pB p, .func (.func 9) #[] #[pB bb, pB lb, pB gb, pB hb]] w fun e w' => e = .returned (.tuple #[.nilIface, .int .i64 0]) ∧ DoesAt w0 B p gb a Cs b w' := by
  obtain ⟨hB, hp, hlt⟩ := h.size
  have hsz : (w.alloc (.cells #[.int .i64 0] 3)).heap.size = w.heap.size + 1 := by simp
  have hdo := do_nil (h.log0.alloc (.cells #[.int .i64 0] 3)) _ _ (does2_calls _) (fun w' => DoesAt w0 B p gb a (box3 (w.heap.size + 1) p a ++ (boxR w.heap.size :: Cs)) b w')
    ((does_call ha hb20 h hbb hlb hhb).mono fun e w' ⟨q1, q2⟩ => ⟨q1.2.2 h1 h2, q2⟩) (fun w' hw => by
      rw [hsz]
      exact hw.choose_spec.2.1.one (by simp))
  refine (does_ret (v := .nilIface) (Q := fun w' => DoesAt w0 B p gb a Cs b w') (hdo.mono ?_)).mono ?_
  · rintro e w' ⟨rfl, w1, hw, rfl⟩
    rw [hsz]
    have hr : One w1 w.heap.size (.int .i64 0) 3 := hw.choose_spec.2.1.one (by simp)
    have h2 : One w1 (w.heap.size + 1 + 2) (.bool false) 4 := hw.choose_spec.2.1.one (by simp)
    exact ⟨rfl, (hw.less (Ds := Cs) (fun x hx => by simp [hx])).set h2 (by omega) (by omega) (by decide) (by decide) (by decide) (fun x hx => by have := hlt x hx; omega), hr.other (by simp only; omega) _⟩
  · rintro e w' ⟨rfl, w1, hw, ho, rfl⟩
    exact ⟨rfl, hw.set ho (by omega) (by omega) (by decide) (by decide) (by decide) (fun x hx => by have := hlt x hx; omega)⟩

theorem gone_of {K : List Int} (hK : K = (nums b).reverse) (h : DoesJ w0 B p gb a K Cs (List.replicate a (oneF gb)) w) (hl : LogAt w B p (List.replicate a (oneF gb))) : Gone w0 B p gb a b Cs w := by
  obtain ⟨X, M, G, e, h1, h2, h3⟩ := h
  have hX : X = [] := by
    have := congrArg List.length e
    simp at this
    exact this
  subst hX
  have hM : M = [] := List.eq_nil_of_length_eq_zero h1.len.symm
  subst hM
  simp only [List.reverse_nil, List.append_nil] at h2
  subst h2; subst hK
  exact ⟨h1, h3, hl⟩

theorem DoesAt.j (h : DoesAt w0 B p gb a Cs b w) : ∃ gs, List.length gs = b ∧ LogAt w B p (List.replicate a (oneF gb) ++ gs) ∧ DoesJ w0 B p gb a (nums b).reverse Cs (List.replicate a (oneF gb) ++ gs) w := by
  obtain ⟨X, h1, h2, h3⟩ := h
  exact ⟨X.map (playF gb), by rw [List.length_map, h1.len, nums_length], h3, X, nums b, [], rfl, h1, rfl, h2⟩

/-- Where it errs. -/
theorem does_errs (ha : a ≤ 20) (hb20 : b ≤ 20) (h : DoesAt w0 B p gb a Cs 0 w) (hbb : (bb, .cells #[.int .i64 b] 3 (0, 0)) ∈ Cs) (hlb : (lb, .cells #[pB p] 23 (0, 0)) ∈ Cs) (hhb : (hb, .cells #[.int .i64 how] 3 (0, 0)) ∈ Cs) (h1 : how % 4 = 1) :
    Calls Tryd.prog 8 #[pB p, .func (.func 9) #[] #[pB bb, pB lb, pB gb, pB hb]] w fun e w' => e = .returned (.tuple #[doErr 70, .int .i64 0]) ∧ Gone w0 B p gb a b Cs w' := by
  obtain ⟨hB, hp, hlt⟩ := h.size
  have hsz : (w.alloc (.cells #[.int .i64 0] 3)).heap.size = w.heap.size + 1 := by simp
  have hdo := do_err2 (h.log0.alloc (.cells #[.int .i64 0] 3)) _ _ (does2_calls _) 31 (.int .i64 70) (DoesJ w0 B p gb a (nums b).reverse (boxR w.heap.size :: Cs))
    (fun hs f w hl hj hlg => does_step hs f w (by simpa using hl) hj hlg) (fun hs w w' hj hk => hj.stab hk)
    ((does_call ha hb20 h hbb hlb hhb).mono fun e w' ⟨q1, q2⟩ => by
      rw [hsz]
      have o1 : One w' (w.heap.size + 1) (pB p) 23 := q2.choose_spec.2.1.one (by simp)
      have o2 : One w' (w.heap.size + 1 + 1) (.int .i64 a) 3 := q2.choose_spec.2.1.one (by simp)
      have o3 : One w' (w.heap.size + 1 + 2) (.bool false) 4 := q2.choose_spec.2.1.one (by simp)
      have q3 := (q2.less (Ds := boxR w.heap.size :: Cs) (fun x hx => List.mem_append_right _ hx)).set (u := .bool false) o3 (by omega) (by omega) (by decide) (by decide) (by decide) (fun x hx => by
        simp only [List.mem_cons] at hx
        rcases hx with rfl | hx
        · simp only; omega
        · have := hlt x hx; omega)
      obtain ⟨gs, g1, g2, g3⟩ := q3.j
      exact ⟨q1.1 h1, o1, by rw [List.length_replicate]; exact o2, o3, gs, by simp; omega, g2, g3⟩)
  refine (does_ret (v := doErr 70) (Q := fun w' => Gone w0 B p gb a b Cs w') (hdo.mono ?_)).mono ?_
  · rintro e w' ⟨rfl, hj, hl⟩
    have hg := gone_of rfl hj hl
    exact ⟨rfl, ⟨hg.1, hg.2.1.less (fun x hx => List.mem_cons_of_mem _ hx), hg.2.2⟩, hg.2.1.one (by simp)⟩
  · rintro e w' ⟨rfl, w1, hw, ho, rfl⟩
    exact ⟨rfl, hw.set ho (by omega) (by omega) (by decide) (by decide) (by decide) (fun x hx => by have := hlt x hx; omega)⟩

/-- Where it panics. -/
theorem does_panics (ha : a ≤ 20) (hb20 : b ≤ 20) (h : DoesAt w0 B p gb a Cs 0 w) (hbb : (bb, .cells #[.int .i64 b] 3 (0, 0)) ∈ Cs) (hlb : (lb, .cells #[pB p] 23 (0, 0)) ∈ Cs) (hhb : (hb, .cells #[.int .i64 how] 3 (0, 0)) ∈ Cs) (h1 : how % 4 = 2) :
    Calls Tryd.prog 8 #[pB p, .func (.func 9) #[] #[pB bb, pB lb, pB gb, pB hb]] w fun e w' => e = .returned (.tuple #[.nilIface, .int .i64 how]) ∧ Gone w0 B p gb a b Cs w' := by
  obtain ⟨hB, hp, hlt⟩ := h.size
  have hsz : (w.alloc (.cells #[.int .i64 0] 3)).heap.size = w.heap.size + 1 := by simp
  have hdo := do_panic (h.log0.alloc (.cells #[.int .i64 0] 3)) _ _ (does2_calls _) 3 (.int .i64 how) (DoesJ w0 B p gb a (nums b).reverse (boxR w.heap.size :: Cs))
    (fun hs f w hl hj hlg => does_step hs f w (by simpa using hl) hj hlg) (fun hs w w' hj hk => hj.stab hk)
    ((does_call ha hb20 h hbb hlb hhb).mono fun e w' ⟨q1, q2⟩ => by
      rw [hsz]
      have o1 : One w' (w.heap.size + 1) (pB p) 23 := q2.choose_spec.2.1.one (by simp)
      have o2 : One w' (w.heap.size + 1 + 1) (.int .i64 a) 3 := q2.choose_spec.2.1.one (by simp)
      have o3 : One w' (w.heap.size + 1 + 2) (.bool false) 4 := q2.choose_spec.2.1.one (by simp)
      have q3 := q2.less (Ds := boxR w.heap.size :: Cs) (fun x hx => List.mem_append_right _ hx)
      obtain ⟨gs, g1, g2, g3⟩ := q3.j
      exact ⟨q1.2.1 h1, o1, by rw [List.length_replicate]; exact o2, o3, gs, by simp; omega, g2, g3⟩)
  refine (does_pan (n := how) (Q := fun w' => Gone w0 B p gb a b Cs w') (hdo.mono ?_)).mono ?_
  · rintro e w' ⟨rfl, hj, hl⟩
    have hg := gone_of rfl hj hl
    exact ⟨rfl, ⟨hg.1, hg.2.1.less (fun x hx => List.mem_cons_of_mem _ hx), hg.2.2⟩, hg.2.1.one (by simp)⟩
  · rintro e w' ⟨rfl, w1, hw, ho, rfl⟩
    exact ⟨rfl, hw.set ho (by omega) (by omega) (by decide) (by decide) (by decide) (fun x hx => by have := hlt x hx; omega)⟩
end

end Go.Proofs.YthofmccpfknjnaaDoor
