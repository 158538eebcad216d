/-
  rialtoplay.Hooks: the statements' user code, as it lies in memory. Conditions: none. (Printed by wip/tools/hooks_gen.py.)
-/
import Derived.Test.YtgfmemggfbgjeaaGreatDoorM34
namespace Go.Proofs.YtgfmemggfbgjeaaGreatDoor
open Go.RowKit Go.Extern.Stop Go.Stop Go.Extern Go.Lib
set_option maxRecDepth 1000000

/-- A row of k functions, the i-th made with the number i and the meter mp; all of it lies from block B on. -/
def FnRow (w : World) (B : Nat) (mp : Value) (T : TypeId) (mk : Nat → Nat → Value) (v : Value) (k : Nat) : Prop :=
  ∃ bs : List (Nat × Nat), bs.length = k ∧ w.ownsRow B T 1 v k (bs.map fun p => mk p.1 p.2) ∧ ∀ (i : Nat) (p : Nat × Nat), bs[i]? = some p → One w p.1 mp 49 ∧ One w p.2 (.int .i64 i) 3 ∧ B ≤ p.1 ∧ B ≤ p.2

theorem FnRow.same {w w' : World} {B k : Nat} {mp v : Value} {T : TypeId} {mk : Nat → Nat → Value} {F : Nat → Prop} (h : FnRow w B mp T mk v k) (hs : Same F w w') (hF : ∀ j, B ≤ j → j < w.heap.size → ¬ F j) : FnRow w' B mp T mk v k := by
  obtain ⟨bs, h1, h2, h3⟩ := h
  refine ⟨bs, h1, hs.row h2 (fun j hj => hF j (h2.lt j hj).1 (h2.lt j hj).2), fun i p hp => ?_⟩
  obtain ⟨a1, a2, a3, a4⟩ := h3 i p hp
  exact ⟨hs.one a1 (hF _ a3 a1.lt), hs.one a2 (hF _ a4 a2.lt), a3, a4⟩

/-- Where only one other block is turned, that of a struct. -/
theorem FnRow.sameH {w w' : World} {B k b : Nat} {mp v : Value} {T : TypeId} {mk : Nat → Nat → Value} {cs : Array Value} (h : FnRow w B mp T mk v k) (hs : Same (fun j => j = b) w w') (hb : w.heap[b]? = some (.cells cs 31 (0, 0))) (hT : T ≠ 31) : FnRow w' B mp T mk v k := by
  obtain ⟨bs, h1, h2, h3⟩ := h
  refine ⟨bs, h1, hs.row h2 (fun j hj e => ?_), fun i p hp => ?_⟩
  · subst e
    rcases h2.2 with ⟨rfl, _⟩ | ⟨g, cap, cur, rfl, _, hh, _⟩
    · cases hj
    · simp only [Value.ownBlock, Option.some.injEq] at hj
      subst hj
      have := hh.symm.trans hb
      simp at this
      exact hT this.2
  · obtain ⟨a1, a2, a3, a4⟩ := h3 i p hp
    refine ⟨hs.one a1 (fun e => ?_), hs.one a2 (fun e => ?_), a3, a4⟩
    · rw [e] at a1
      have := a1.symm.trans hb
      simp at this
    · rw [e] at a2
      have := a2.symm.trans hb
      simp at this

theorem FnRow.nil (w : World) (B : Nat) (mp : Value) (T : TypeId) (mk : Nat → Nat → Value) : FnRow w B mp T mk (.slice none 0 0) 0 :=
  ⟨[], rfl, World.ownsRow_nil _ _ _ _, fun i p h => by simp at h⟩

/-- One function more. -/
theorem FnRow.app {w1 w2 : World} {B k g cap b1 b2 : Nat} {mp v : Value} {T : TypeId} {mk : Nat → Nat → Value} {bs : List (Nat × Nat)} (hk : bs.length = k) (hbs : ∀ (i : Nat) (p : Nat × Nat), bs[i]? = some p → One w1 p.1 mp 49 ∧ One w1 p.2 (.int .i64 i) 3 ∧ B ≤ p.1 ∧ B ≤ p.2)
    (hrow : w1.ownsRow B T 1 v k (bs.map fun p => mk p.1 p.2)) (hT1 : 49 ≠ T) (hT2 : 3 ≠ T)
    (h1 : One w1 b1 mp 49) (h2 : One w1 b2 (.int .i64 k) 3) (hB1 : B ≤ b1) (hB2 : B ≤ b2)
    (hg : w1.grownBy w2 v.ownBlock) (ho : w2.ownsRow B T 1 (.slice (some ⟨g, 0, none⟩) (k + 1) cap) (k + 1) ((bs.map fun p => mk p.1 p.2) ++ [mk b1 b2])) : FnRow w2 B mp T mk (.slice (some ⟨g, 0, none⟩) (k + 1) cap) (k + 1) := by
  refine ⟨bs ++ [(b1, b2)], by simp [hk], by rw [List.map_append]; exact ho, fun i p hp => ?_⟩
  have key : ∀ {b : Nat} {u : Value} {t : TypeId}, One w1 b u t → t ≠ T → One w2 b u t := fun hb ht => grownBy_one hg hb (own_ne hrow hb ht)
  by_cases hi : i < bs.length
  · rw [List.getElem?_append_left hi] at hp
    obtain ⟨a1, a2, a3, a4⟩ := hbs i p hp
    exact ⟨key a1 hT1, key a2 hT2, a3, a4⟩
  · have hie : i = bs.length := by have := (List.getElem?_eq_some_iff.1 hp).1; simp at this; omega
    subst hie
    simp at hp
    subst hp
    rw [hk]
    exact ⟨key h1 hT1, key h2 hT2, hB1, hB2⟩

/-- The hooks as a value. -/
def HooksAt (w : World) (B : Nat) (hv mp : Value) : Prop := ∃ ve vc, hv = .agg #[ve, vc] ∧ FnRow w B mp 89 exF ve 5 ∧ FnRow w B mp 27 coF vc 3

abbrev hooksObj (ve vc : Value) : Obj := .cells #[ve, vc] 31

theorem hooks_cells {w : World} {b : Nat} {ve vc : Value} (h : w.heap[b]? = some (hooksObj ve vc)) : w.cell? ⟨b, 0, none⟩ = some ve ∧ w.cell? ⟨b, 1, none⟩ = some vc ∧ ∀ o, w.frozen? ⟨b, o, none⟩ = false := by
  simp [World.cell?, World.frozen?, h]

theorem ex_info : (Tryz.prog.info? 89).map (fun i => (i.zero, i.size, i.bytes)) = some (some .nilFunc, 1, 8) := by kernel_rfl
theorem co_info : (Tryz.prog.info? 27).map (fun i => (i.zero, i.size, i.bytes)) = some (some .nilFunc, 1, 8) := by kernel_rfl

theorem twoBox_same (w : World) (n : Int) (mp : Value) : Same (fun _ => False) w (twoBox w n mp) := ((Same.refl _ w).alloc _).alloc _
theorem twoBox_n (w : World) (n : Int) (mp : Value) : One (twoBox w n mp) w.heap.size (.int .i64 n) 3 := (One.new w _ _).alloc _
theorem twoBox_m (w : World) (n : Int) (mp : Value) : One (twoBox w n mp) (w.heap.size + 1) mp 49 := by
  have := One.new (w.alloc (.cells #[.int .i64 n] 3)) mp 49
  simpa using this

/-- What lies in memory while Hooks fills its rows. -/
structure HkI (w : World) (mp ve vc : Value) (i j : Nat) (wr : World) : Prop where
  same : Same (fun _ => False) w wr
  res : wr.heap[w.heap.size]? = some (hooksObj (.slice none 0 0) (.slice none 0 0))
  h : wr.heap[w.heap.size + 1]? = some (hooksObj ve vc)
  ex : FnRow wr w.heap.size mp 89 exF ve i
  co : FnRow wr w.heap.size mp 27 coF vc j

theorem HkI.start (w : World) (mp : Value) : HkI w mp (.slice none 0 0) (.slice none 0 0) 0 0 ((w.alloc (hooksObj (.slice none 0 0) (.slice none 0 0))).alloc (hooksObj (.slice none 0 0) (.slice none 0 0))) := by
  refine ⟨((Same.refl _ w).alloc _).alloc _, ((Same.refl (fun _ => False) _).alloc _).obj (heap_alloc_new w _) id, ?_, FnRow.nil _ _ _ _ _, FnRow.nil _ _ _ _ _⟩
  have h := heap_alloc_new (w.alloc (hooksObj (.slice none 0 0) (.slice none 0 0))) (hooksObj (.slice none 0 0) (.slice none 0 0))
  rw [show (w.alloc (hooksObj (.slice none 0 0) (.slice none 0 0))).heap.size = w.heap.size + 1 by simp] at h
  exact h

/-- The first row grows by one. -/
theorem HkI.step0 {w wr w1 w2 : World} {mp ve vc : Value} {i j g cap : Nat} (h : HkI w mp ve vc i j wr) (hs : w1 = twoBox wr.drew i mp) (hg : w1.grownBy w2 ve.ownBlock) (bs : List (Nat × Nat)) (hk : bs.length = i) (hbs : ∀ (n : Nat) (p : Nat × Nat), bs[n]? = some p → One w1 p.1 mp 49 ∧ One w1 p.2 (.int .i64 n) 3 ∧ w.heap.size ≤ p.1 ∧ w.heap.size ≤ p.2)
    (hrow : w1.ownsRow w.heap.size 89 1 ve i (bs.map fun p => exF p.1 p.2)) (ho : w2.ownsRow w.heap.size 89 1 (.slice (some ⟨g, 0, none⟩) (i + 1) cap) (i + 1) ((bs.map fun p => exF p.1 p.2) ++ [exF (wr.heap.size + 1) wr.heap.size])) :
    HkI w mp (.slice (some ⟨g, 0, none⟩) (i + 1) cap) vc (i + 1) j (w2.setCell ⟨w.heap.size + 1, 0, none⟩ (.slice (some ⟨g, 0, none⟩) (i + 1) cap)) := by
  have hs1 : Same (fun _ => False) wr w1 := by subst hs; exact (Same.refl _ wr).drew.trans (twoBox_same _ _ _) (fun _ _ h => h)
  have hb2 : One w1 wr.heap.size (.int .i64 i) 3 := by subst hs; exact twoBox_n wr.drew _ _
  have hb1 : One w1 (wr.heap.size + 1) mp 49 := by subst hs; exact twoBox_m wr.drew _ _
  have hown : ∀ k, ve.ownBlock = some k → w.heap.size ≤ k := fun k hk => (hrow.lt k hk).1
  have hs2 : Same (fun k => w.heap.size ≤ k) wr w2 := (hs1.weaken (fun _ _ h => h.elim)).grown hg (fun k hk _ => hown k hk)
  have hne : ∀ {b : Nat} {cs : Array Value}, w1.heap[b]? = some (.cells cs 31 (0, 0)) → w2.heap[b]? = some (.cells cs 31 (0, 0)) := fun hb => grownBy_one hg hb (fun e => by
    rcases hrow.2 with ⟨e1, _⟩ | ⟨g', cap', cur, e1, _, hh, _⟩
    · rw [e1] at e; cases e
    · rw [e1] at e
      simp only [Value.ownBlock, Option.some.injEq] at e
      subst e
      have := hh.symm.trans hb
      simp at this)
  have hres := hne (hs1.obj h.res id)
  have hh := hne (hs1.obj h.h id)
  have hrow2 := FnRow.app hk hbs hrow (by decide) (by decide) hb1 hb2 (by have := h.same.size; omega) h.same.size hg ho
  have hoth : FnRow w2 w.heap.size mp 27 coF vc j := by
    have h1 := h.co.same hs1 (fun _ _ _ => id)
    obtain ⟨cs, q1, q2, q3⟩ := h1
    refine ⟨cs, q1, ?_, fun n p hp => ?_⟩
    · obtain ⟨r1, r2⟩ := q2
      refine ⟨r1, ?_⟩
      rcases r2 with r2 | ⟨g', cap', cur, rfl, r3, r4, r5⟩
      · exact Or.inl r2
      · refine Or.inr ⟨g', cap', cur, rfl, r3, grownBy_one hg r4 (fun e => ?_), r5⟩
        rcases hrow.2 with ⟨e1, _⟩ | ⟨g'', cap'', cur'', e1, _, hh'', _⟩
        · rw [e1] at e; cases e
        · rw [e1] at e
          simp only [Value.ownBlock, Option.some.injEq] at e
          subst e
          have := hh''.symm.trans r4
          simp at this
    · obtain ⟨a1, a2, a3, a4⟩ := q3 n p hp
      exact ⟨grownBy_one hg a1 (own_ne hrow a1 (by decide)), grownBy_one hg a2 (own_ne hrow a2 (by decide)), a3, a4⟩
  have hset : Same (fun k => k = w.heap.size + 1) w2 (w2.setCell ⟨w.heap.size + 1, 0, none⟩ (.slice (some ⟨g, 0, none⟩) (i + 1) cap)) := (Same.refl (fun k => k = w.heap.size + 1) w2).setCell (p := ⟨w.heap.size + 1, 0, none⟩) (fun _ => rfl) _
  refine ⟨h.same.trans (hs2.trans hset (F' := fun k => k = w.heap.size + 1) (fun k _ h => by omega)) (fun k hk h => by omega), hset.obj hres (by omega), vset_at hh, ?_, ?_⟩
  · exact hrow2.sameH hset hh (by decide)
  · exact hoth.sameH hset hh (by decide)

/-- The second row grows by one. -/
theorem HkI.step1 {w wr w1 w2 : World} {mp ve vc : Value} {i j g cap : Nat} (h : HkI w mp ve vc i j wr) (hs : w1 = twoBox wr.drew j mp) (hg : w1.grownBy w2 vc.ownBlock) (bs : List (Nat × Nat)) (hk : bs.length = j) (hbs : ∀ (n : Nat) (p : Nat × Nat), bs[n]? = some p → One w1 p.1 mp 49 ∧ One w1 p.2 (.int .i64 n) 3 ∧ w.heap.size ≤ p.1 ∧ w.heap.size ≤ p.2)
    (hrow : w1.ownsRow w.heap.size 27 1 vc j (bs.map fun p => coF p.1 p.2)) (ho : w2.ownsRow w.heap.size 27 1 (.slice (some ⟨g, 0, none⟩) (j + 1) cap) (j + 1) ((bs.map fun p => coF p.1 p.2) ++ [coF (wr.heap.size + 1) wr.heap.size])) :
    HkI w mp ve (.slice (some ⟨g, 0, none⟩) (j + 1) cap) i (j + 1) (w2.setCell ⟨w.heap.size + 1, 1, none⟩ (.slice (some ⟨g, 0, none⟩) (j + 1) cap)) := by
  have hs1 : Same (fun _ => False) wr w1 := by subst hs; exact (Same.refl _ wr).drew.trans (twoBox_same _ _ _) (fun _ _ h => h)
  have hb2 : One w1 wr.heap.size (.int .i64 j) 3 := by subst hs; exact twoBox_n wr.drew _ _
  have hb1 : One w1 (wr.heap.size + 1) mp 49 := by subst hs; exact twoBox_m wr.drew _ _
  have hown : ∀ k, vc.ownBlock = some k → w.heap.size ≤ k := fun k hk => (hrow.lt k hk).1
  have hs2 : Same (fun k => w.heap.size ≤ k) wr w2 := (hs1.weaken (fun _ _ h => h.elim)).grown hg (fun k hk _ => hown k hk)
  have hne : ∀ {b : Nat} {cs : Array Value}, w1.heap[b]? = some (.cells cs 31 (0, 0)) → w2.heap[b]? = some (.cells cs 31 (0, 0)) := fun hb => grownBy_one hg hb (fun e => by
    rcases hrow.2 with ⟨e1, _⟩ | ⟨g', cap', cur, e1, _, hh, _⟩
    · rw [e1] at e; cases e
    · rw [e1] at e
      simp only [Value.ownBlock, Option.some.injEq] at e
      subst e
      have := hh.symm.trans hb
      simp at this)
  have hres := hne (hs1.obj h.res id)
  have hh := hne (hs1.obj h.h id)
  have hrow2 := FnRow.app hk hbs hrow (by decide) (by decide) hb1 hb2 (by have := h.same.size; omega) h.same.size hg ho
  have hoth : FnRow w2 w.heap.size mp 89 exF ve i := by
    have h1 := h.ex.same hs1 (fun _ _ _ => id)
    obtain ⟨cs, q1, q2, q3⟩ := h1
    refine ⟨cs, q1, ?_, fun n p hp => ?_⟩
    · obtain ⟨r1, r2⟩ := q2
      refine ⟨r1, ?_⟩
      rcases r2 with r2 | ⟨g', cap', cur, rfl, r3, r4, r5⟩
      · exact Or.inl r2
      · refine Or.inr ⟨g', cap', cur, rfl, r3, grownBy_one hg r4 (fun e => ?_), r5⟩
        rcases hrow.2 with ⟨e1, _⟩ | ⟨g'', cap'', cur'', e1, _, hh'', _⟩
        · rw [e1] at e; cases e
        · rw [e1] at e
          simp only [Value.ownBlock, Option.some.injEq] at e
          subst e
          have := hh''.symm.trans r4
          simp at this
    · obtain ⟨a1, a2, a3, a4⟩ := q3 n p hp
      exact ⟨grownBy_one hg a1 (own_ne hrow a1 (by decide)), grownBy_one hg a2 (own_ne hrow a2 (by decide)), a3, a4⟩
  have hset : Same (fun k => k = w.heap.size + 1) w2 (w2.setCell ⟨w.heap.size + 1, 1, none⟩ (.slice (some ⟨g, 0, none⟩) (j + 1) cap)) := (Same.refl (fun k => k = w.heap.size + 1) w2).setCell (p := ⟨w.heap.size + 1, 1, none⟩) (fun _ => rfl) _
  refine ⟨h.same.trans (hs2.trans hset (F' := fun k => k = w.heap.size + 1) (fun k _ h => by omega)) (fun k hk h => by omega), hset.obj hres (by omega), vset_at hh, ?_, ?_⟩
  · exact hoth.sameH hset hh (by decide)
  · exact hrow2.sameH hset hh (by decide)

theorem step_cell {w w2 : World} {mp ve vc u : Value} {i j o : Nat} (h : HkI w mp ve vc i j (w2.setCell ⟨w.heap.size + 1, o, none⟩ u)) (ho : o < 2 := by decide) : ∃ q, w2.cell? ⟨w.heap.size + 1, o, none⟩ = some q ∧ w2.frozen? ⟨w.heap.size + 1, o, none⟩ = false := by
  have hh := h.h
  simp only [World.setCell, Array.getElem?_modify] at hh
  simp at hh
  obtain ⟨o', h1, h2⟩ := hh
  cases o' with
  | cells cs t fr =>
    simp only [Obj.cells.injEq] at h2
    obtain ⟨e1, rfl, rfl⟩ := h2
    have hsz : cs.size = 2 := by have := congrArg Array.size e1; simpa using this
    exact ⟨cs[o], by simp [World.cell?, h1, hsz, ho], by simp [World.frozen?, h1]⟩
  | _ => simp at h2

theorem own_view1 {w : World} {B n : Nat} {v : Value} {xs : List Value} {e : TypeId} (h : w.ownsRow B e 1 v n xs) : ∃ ao cap, v = .slice ao n cap ∧ n ≤ cap := by
  rcases h.2 with ⟨h1, h2⟩ | ⟨g, cap, cur, h1, _, _, h3, _⟩
  · exact ⟨none, 0, by rw [h1, h2], by omega⟩
  · exact ⟨_, cap, h1, h3⟩

theorem hooks_ret {a : Act} {W : World} {b : Nat} {ve vc : Value} {R : Ending → World → Prop} {fn : Func} {p : Tmp} (hres : fn.results = #[.cell p 31]) (hp : a.tmps.getD p undef = .pointer (some ⟨b, 0, none⟩)) (hb : W.heap[b]? = some (hooksObj ve vc))
    (hd : a.defers = []) (hR : R (.returned (.agg #[ve, vc])) W) : bodyPost Tryz.prog fn R .ret a W := by
  obtain ⟨e0, e1, _⟩ := hooks_cells hb
  refine bodyPost_ret ?_ hd hR
  have hp' : a.tmps[p]?.getD undef = .pointer (some ⟨b, 0, none⟩) := by simpa using hp
  simp [results, hres, hp', go_sem, e0, e1]

set_option maxHeartbeats 8000000 in
theorem hooks_any {mp : Value} (hp : mp = .pointer none ∨ ∃ m, mp = .pointer (some ⟨m, 0, none⟩)) (w : World) :
    Calls Tryz.prog 10 #[mp] w fun e w' => ∃ hv, e = .returned hv ∧ Same (fun _ => False) w w' ∧ HooksAt w' w.heap.size hv mp := by
  have HI0 := Lib.hid (HkI.start w mp); have HP := Lib.hid hp
  go_enter Tryz.func10, Tryz.ntmps10
  go_wp2_with fail
  -- the first row
  go_loopg [4] 5 (fun r i wr => ∃ (k : Nat) (ve vc : Value), k + r = 5 ∧ i = .int .i64 k ∧ HkI w mp ve vc k 0 wr)
  case atStart => exact ⟨0, _, _, rfl, rfl, HI0.out⟩
  case round =>
    obtain ⟨k, ve, vc, hk, rfl, hI⟩ := hrel
    have HI := Lib.hid hI
    obtain ⟨c0, c1, cf⟩ := hooks_cells hI.h
    have ll := lt_of_block hI.h
    clear hI
    by_cases hlt : k < 5
    · obtain ⟨r, rfl⟩ : ∃ r, gk = r + 1 := ⟨gk - 1, by omega⟩
      have HK := Lib.hid hk
      have hlt' : (k : Int) < 5 := by omega
      obtain ⟨bs, b1, b2, b3⟩ := HI.out.ex
      have HB1 := Lib.hid b1; have HB2 := Lib.hid b2; have HB3 := Lib.hid b3
      clear hk b1 b2 b3
      go_wp2_with fail
      go_region_law (first
        | (go_simp; refine (mkex_any _ _ HP.out _).mono ?_; rintro e w1 ⟨rfl, hw1⟩; have HW1 := Lib.hid hw1; have hs1 : Same (fun _ => False) wr w1 := (by subst hw1; exact (Same.refl _ wr).drew.trans (twoBox_same _ _ _) (fun _ _ h => h)); clear hw1; have hr1 := hs1.row HB2.out (fun _ _ => id); have d0 := ocell hs1 c0 id; have wl1 : w.heap.size + 1 < w1.heap.size := (by have := hs1.size; omega); have hwsz : w.heap.size ≤ w1.heap.size := (by omega))
        | (refine step_append_elem w1 rfl _ _ 28 rfl w.heap.size 89 .nilFunc 1 8 Tryz.underlying28 ex_info rfl (by decide) ve k (bs.map fun p => exF p.1 p.2) rfl hr1 [exF (wr.heap.size + 1) wr.heap.size] 1 rfl rfl (by intro u hu; simp at hu; subst hu; rfl) (by unfold maxLen; omega) (by omega) hwsz ?_; intro g cap w2 ho hg hwhere hgl hsl; have hst := HI.out.step0 HW1.out hg bs HB1.out (fun n p hp => by obtain ⟨a1, a2, a3, a4⟩ := HB3.out n p hp; exact ⟨hs1.one a1 id, hs1.one a2 id, a3, a4⟩) hr1 ho; have hhb : ∃ q, w2.cell? ⟨w.heap.size + 1, 0, none⟩ = some q ∧ w2.frozen? ⟨w.heap.size + 1, 0, none⟩ = false := step_cell hst; obtain ⟨q, hq, hqf⟩ := hhb; have HST := Lib.hid hst; clear ho hg hwhere hst))
      all_goals
        have HST2 := HST
        clear hs1 hr1 d0 hq hqf c0 c1 cf wl1 hwsz
        go_wp2_with fail
        go_roundg r
        case measure => omega
        case rel => exact ⟨k + 1, _, _, by have := HK.out; omega, by go_num, HST2.out⟩
    · obtain rfl : k = 5 := by omega
      clear hk hlt HI0
      go_wp2_with fail
      -- the second row
      go_loopg [5] 3 (fun r i wr => ∃ (k : Nat) (ve vc : Value), k + r = 3 ∧ i = .int .i64 k ∧ HkI w mp ve vc 5 k wr)
      case atStart => exact ⟨0, _, _, rfl, rfl, HI.out⟩
      case round =>
        obtain ⟨k, ve, vc, hk, rfl, hI⟩ := hrel
        have HI := Lib.hid hI
        obtain ⟨c0, c1, cf⟩ := hooks_cells hI.h
        have ll := lt_of_block hI.h
        clear hI
        by_cases hlt : k < 3
        · obtain ⟨r, rfl⟩ : ∃ r, gk = r + 1 := ⟨gk - 1, by omega⟩
          have HK := Lib.hid hk
          have hlt' : (k : Int) < 3 := by omega
          obtain ⟨bs, b1, b2, b3⟩ := HI.out.co
          have HB1 := Lib.hid b1; have HB2 := Lib.hid b2; have HB3 := Lib.hid b3
          clear hk b1 b2 b3
          go_wp2_with fail
          go_region_law (first
            | (go_simp; refine (mkco_any _ _ HP.out _).mono ?_; rintro e w1 ⟨rfl, hw1⟩; have HW1 := Lib.hid hw1; have hs1 : Same (fun _ => False) wr w1 := (by subst hw1; exact (Same.refl _ wr).drew.trans (twoBox_same _ _ _) (fun _ _ h => h)); clear hw1; have hr1 := hs1.row HB2.out (fun _ _ => id); have d0 := ocell hs1 c1 id; have wl1 : w.heap.size + 1 < w1.heap.size := (by have := hs1.size; omega); have hwsz : w.heap.size ≤ w1.heap.size := (by omega))
            | (refine step_append_elem w1 rfl _ _ 29 rfl w.heap.size 27 .nilFunc 1 8 Tryz.underlying29 co_info rfl (by decide) vc k (bs.map fun p => coF p.1 p.2) rfl hr1 [coF (wr.heap.size + 1) wr.heap.size] 1 rfl rfl (by intro u hu; simp at hu; subst hu; rfl) (by unfold maxLen; omega) (by omega) hwsz ?_; intro g cap w2 ho hg hwhere hgl hsl; have hst := HI.out.step1 HW1.out hg bs HB1.out (fun n p hp => by obtain ⟨a1, a2, a3, a4⟩ := HB3.out n p hp; exact ⟨hs1.one a1 id, hs1.one a2 id, a3, a4⟩) hr1 ho; have hhb : ∃ q, w2.cell? ⟨w.heap.size + 1, 1, none⟩ = some q ∧ w2.frozen? ⟨w.heap.size + 1, 1, none⟩ = false := step_cell hst; obtain ⟨q, hq, hqf⟩ := hhb; have HST := Lib.hid hst; clear ho hg hwhere hst))
          all_goals
            have HST2 := HST
            clear hs1 hr1 d0 hq hqf c0 c1 cf wl1 hwsz
            go_wp2_with fail
            go_roundg r
            case measure => omega
            case rel => exact ⟨k + 1, _, _, by have := HK.out; omega, by go_num, HST2.out⟩
        · obtain rfl : k = 3 := by omega
          clear hk hlt
          have hI := HI
          obtain ⟨e0, e1, ef⟩ := hooks_cells HI.out.res
          have lr := lt_of_block HI.out.res
          have hset : Same (fun k => k = w.heap.size) wr ((wr.setCell ⟨w.heap.size, 0, none⟩ ve).setCell ⟨w.heap.size, 1, none⟩ vc) := ((Same.refl (fun k => k = w.heap.size) wr).setCell (p := ⟨w.heap.size, 0, none⟩) (fun _ => rfl) _).setCell (p := ⟨w.heap.size, 1, none⟩) (fun _ => rfl) _
          have hsd : Same (fun _ => False) w ((wr.setCell ⟨w.heap.size, 0, none⟩ ve).setCell ⟨w.heap.size, 1, none⟩ vc) := HI.out.same.trans hset (fun k hk e => by omega)
          have hat : HooksAt ((wr.setCell ⟨w.heap.size, 0, none⟩ ve).setCell ⟨w.heap.size, 1, none⟩ vc) w.heap.size (.agg #[ve, vc]) mp := ⟨ve, vc, rfl, HI.out.ex.sameH hset HI.out.res (by decide), HI.out.co.sameH hset HI.out.res (by decide)⟩
          have hrr : ((wr.setCell ⟨w.heap.size, 0, none⟩ ve).setCell ⟨w.heap.size, 1, none⟩ vc).heap[w.heap.size]? = some (hooksObj ve vc) := vset_at (vset_at HI.out.res)
          have HSD := Lib.hid hsd; have HAT := Lib.hid hat; have HRR := Lib.hid hrr
          obtain ⟨eao, eac, hve, _⟩ := own_view1 HI.out.ex.choose_spec.2.1
          obtain ⟨cao, cac, hvc, _⟩ := own_view1 HI.out.co.choose_spec.2.1
          subst hve; subst hvc
          clear hset hsd hat hrr hI
          go_wp2_with fail
          exact hooks_ret rfl rfl HRR.out rfl ⟨_, rfl, HSD.out, HAT.out⟩
end Go.Proofs.YtgfmemggfbgjeaaGreatDoor
