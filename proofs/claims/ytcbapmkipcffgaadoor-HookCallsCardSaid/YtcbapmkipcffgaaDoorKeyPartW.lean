/-
  key.part with the statements' extractors: the walk. Conditions: few values, short texts, small counts.
-/
import Derived.Test.YtcbapmkipcffgaaDoorKeyPart
namespace Go.Proofs.YtcbapmkipcffgaaDoor
open Go.RowKit Go.Extern.Stop Go.Stop Go.Extern Go.Lib
set_option maxRecDepth 1000000

/-- What lies in memory behind part's boxes. -/
structure PartI (w : World) (name : ByteArray) (kind : Int) (parts : Value) (cmp : Int) (p : Int × Int) (ve vc : Value) (y : V) (W : World) : Prop where
  same : Same (fun _ => False) w W
  d : W.heap[w.heap.size]? = some (.cells #[.string name, .int .i64 kind, parts, .int .i64 cmp] 68)
  p : W.heap[w.heap.size + 1]? = some (.cells #[.int .i64 p.1, .int .i64 p.2] 81)
  h : W.heap[w.heap.size + 1 + 1]? = some (hooksObj ve vc)
  r : W.heap[w.heap.size + 1 + 1 + 1]? = some y.obj

abbrev partWy (w : World) (name : ByteArray) (kind : Int) (parts : Value) (cmp : Int) (p : Int × Int) (ve vc : Value) (y : V) : World :=
  (((w.alloc (.cells #[.string name, .int .i64 kind, parts, .int .i64 cmp] 68)).alloc (.cells #[.int .i64 p.1, .int .i64 p.2] 81)).alloc (hooksObj ve vc)).alloc y.obj

theorem PartI.start (w : World) (name : ByteArray) (kind : Int) (parts : Value) (cmp : Int) (p : Int × Int) (ve vc : Value) (y : V) : PartI w name kind parts cmp p ve vc y (partWy w name kind parts cmp p ve vc y) := by
  have k := fun (a b : World) (o o' : Obj) (i : Nat) (h : a.heap[i]? = some o) => ((Same.refl (fun _ => False) a).alloc o').obj h id
  refine ⟨((((Same.refl _ w).alloc _).alloc _).alloc _).alloc _, ?_, ?_, ?_, ?_⟩
  · exact k _ w _ _ _ (k _ w _ _ _ (k _ w _ _ _ (heap_alloc_new w _)))
  · have h := heap_alloc_new (w.alloc (.cells #[.string name, .int .i64 kind, parts, .int .i64 cmp] 68)) (.cells #[.int .i64 p.1, .int .i64 p.2] 81)
    rw [show (w.alloc (.cells #[.string name, .int .i64 kind, parts, .int .i64 cmp] 68)).heap.size = w.heap.size + 1 by simp] at h
    exact k _ w _ _ _ (k _ w _ _ _ h)
  · have h := heap_alloc_new ((w.alloc (.cells #[.string name, .int .i64 kind, parts, .int .i64 cmp] 68)).alloc (.cells #[.int .i64 p.1, .int .i64 p.2] 81)) (hooksObj ve vc)
    rw [show ((w.alloc (.cells #[.string name, .int .i64 kind, parts, .int .i64 cmp] 68)).alloc (.cells #[.int .i64 p.1, .int .i64 p.2] 81)).heap.size = w.heap.size + 1 + 1 by simp] at h
    exact k _ w _ _ _ h
  · have h := heap_alloc_new (((w.alloc (.cells #[.string name, .int .i64 kind, parts, .int .i64 cmp] 68)).alloc (.cells #[.int .i64 p.1, .int .i64 p.2] 81)).alloc (hooksObj ve vc)) y.obj
    rw [show (((w.alloc (.cells #[.string name, .int .i64 kind, parts, .int .i64 cmp] 68)).alloc (.cells #[.int .i64 p.1, .int .i64 p.2] 81)).alloc (hooksObj ve vc)).heap.size = w.heap.size + 1 + 1 + 1 by simp] at h
    exact h

theorem part_cells {w : World} {b : Nat} {f g : Int} (h : w.heap[b]? = some (.cells #[.int .i64 f, .int .i64 g] 81)) : w.cell? ⟨b, 0, none⟩ = some (.int .i64 f) ∧ w.cell? ⟨b, 1, none⟩ = some (.int .i64 g) := by
  simp [World.cell?, h]

theorem def_cells {w : World} {b : Nat} {name : ByteArray} {kind cmp : Int} {parts : Value} (h : w.heap[b]? = some (.cells #[.string name, .int .i64 kind, parts, .int .i64 cmp] 68)) :
    w.cell? ⟨b, 0, none⟩ = some (.string name) ∧ w.cell? ⟨b, 1, none⟩ = some (.int .i64 kind) ∧ w.cell? ⟨b, 2, none⟩ = some parts ∧ w.cell? ⟨b, 3, none⟩ = some (.int .i64 cmp) := by
  simp [World.cell?, h]

/-- The i-th function of a row. -/
theorem FnRow.at {w : World} {B k : Nat} {mp v : Value} {T : TypeId} {mk : Nat → Nat → Value} (h : FnRow w B mp T mk v k) (i : Nat) (hi : i < k) :
    ∃ g cap bm bn, v = .slice (some ⟨g, 0, none⟩) k cap ∧ w.cell? ⟨g, i, none⟩ = some (mk bm bn) ∧ One w bm mp 70 ∧ One w bn (.int .i64 i) 3 ∧ (∃ cs, w.heap[g]? = some (.cells cs T (0, 0))) ∧ k ≤ cap ∧ cap ≤ maxLen := by
  obtain ⟨bs, h1, h2, h3⟩ := h
  obtain ⟨a1, a2, _, _⟩ := h3 i (bs[i]'(by omega)) (List.getElem?_eq_getElem (by omega))
  rcases h2.2 with ⟨rfl, h0⟩ | ⟨g, cap, cur, rfl, _, hh, hnc, hcm, _⟩
  · omega
  · have hc := h2.cells (g := g) rfl i (mk (bs[i]'(by omega)).1 (bs[i]'(by omega)).2) (by simp [show i < bs.length by omega])
    rw [Addr.add_lit, Nat.zero_add] at hc
    exact ⟨g, cap, _, _, rfl, hc, a1, a2, ⟨cur, hh⟩, hnc, hcm⟩

theorem FnRow.view {w : World} {B k : Nat} {mp v : Value} {T : TypeId} {mk : Nat → Nat → Value} (h : FnRow w B mp T mk v k) : ∃ ao cap, v = .slice ao k cap := by
  obtain ⟨bs, h1, h2, h3⟩ := h
  obtain ⟨ao, cap, e, _⟩ := own_view1 h2
  exact ⟨ao, cap, e⟩

theorem HkAt.view {w : World} {hv mp : Value} {m : Nat} (h : HkAt w hv mp m) : ∃ ao cap co cap2 n2, hv = .agg #[.slice ao m cap, .slice co n2 cap2] := by
  rcases h with ⟨rfl, B, ve, vc, rfl, h1, h2⟩ | ⟨rfl, rfl⟩
  · obtain ⟨ao, cap, rfl⟩ := h1.view
    obtain ⟨co, cap2, rfl⟩ := h2.view
    exact ⟨ao, cap, co, cap2, 3, rfl⟩
  · exact ⟨none, 0, none, 0, 0, rfl⟩

theorem HkAt.same {w w' : World} {hv mp : Value} {m : Nat} (h : HkAt w hv mp m) (hs : Same (fun _ => False) w w') : HkAt w' hv mp m := by
  rcases h with ⟨rfl, B, ve, vc, e, h1, h2⟩ | h
  · exact Or.inl ⟨rfl, B, ve, vc, e, h1.same hs (fun _ _ _ => id), h2.same hs (fun _ _ _ => id)⟩
  · exact Or.inr h

/-- No block of the hooks is a meter's. -/
theorem FnRow.blk {w : World} {B k : Nat} {mp v : Value} {T : TypeId} {mk : Nat → Nat → Value} {c a h s : Int} (hf : FnRow w B mp T mk v k) (hm : MAt w mp c a h s) (hT : T ≠ 72) {w' : World} (hs : Same (Blk mp) w w') : FnRow w' B mp T mk v k := by
  obtain ⟨bs, h1, h2, h3⟩ := hf
  refine ⟨bs, h1, hs.row h2 (fun j hj hB => ?_), fun i p hp => ?_⟩
  · rcases hm with rfl | ⟨m, rfl, hm⟩
    · cases hB
    · cases hB
      rcases h2.2 with ⟨rfl, _⟩ | ⟨g, cap, cur, rfl, _, hh, _⟩
      · cases hj
      · simp only [Value.ownBlock, Option.some.injEq] at hj
        subst hj
        have := hh.symm.trans hm
        simp at this
        exact hT this.2
  · obtain ⟨a1, a2, a3, a4⟩ := h3 i p hp
    exact ⟨hs.one a1 (hm.ne_one a1), hs.one a2 (hm.ne_one a2), a3, a4⟩

theorem HkAt.blk {w w' : World} {hv mp : Value} {m : Nat} {c a h s : Int} (hh : HkAt w hv mp m) (hm : MAt w mp c a h s) (hs : Same (Blk mp) w w') : HkAt w' hv mp m := by
  rcases hh with ⟨rfl, B, ve, vc, e, h1, h2⟩ | hh
  · exact Or.inl ⟨rfl, B, ve, vc, e, h1.blk hm (by decide) hs, h2.blk hm (by decide) hs⟩
  · exact Or.inr hh

section
variable {w : World} {name : ByteArray} {kind cmp : Int} {vs mp : Value} {L : List V} {c a h s F H : Int} {po ao co : Option Addr} {m pn pc cap cap2 n2 : Nat}

theorem PartI.done {y : V} {W : World} (hI : PartI w name kind (.slice po pn pc) cmp (F, H) (.slice ao m cap) (.slice co n2 cap2) y W) (hm : MAt w mp c a h s) : Same (Blk mp) w W ∧ MAt W mp c a h s :=
  ⟨hI.same.weaken (fun _ _ h => h.elim), hm.same hI.same (fun _ _ => id)⟩

set_option maxHeartbeats 8000000 in
/-- A part that is a field. -/
theorem part_field (hr : ReadV w vs L) (_hn : L.length ≤ 1000) (hm : MAt w mp c a h s) (k : Nat) (hk : k < L.length) (y : V) (hy : L[k]? = some y) :
    Calls Tryd.prog 69 #[defV name kind (.slice po pn pc) cmp, partV ((k : Int), H), .agg #[.slice ao m cap, .slice co n2 cap2], vs] w fun e w' => Same (Blk mp) w w' ∧ e = .returned (.tuple #[y.val, .nilIface]) ∧ MAt w' mp c a h s := by
  have hI := PartI.start w name kind (.slice po pn pc) cmp ((k : Int), H) (.slice ao m cap) (.slice co n2 cap2) V.nil
  have hI2 := PartI.start w name kind (.slice po pn pc) cmp ((k : Int), H) (.slice ao m cap) (.slice co n2 cap2) y
  obtain ⟨vo, vc, rfl, hc⟩ := hr.same hI.same
  obtain ⟨b, off, rfl, hb, c0, c1, c2, c3⟩ := hc k y hy
  have HR := Lib.hid hI2.r; have HD := Lib.hid (hI2.done hm)
  have hkl : (k : Int) < (L.length : Int) := by omega
  clear hI hI2 hc hm hr
  go_enter Tryd.func69, Tryd.ntmps69
  go_wp2_with fail
  exact vret (x := y) (v := .nilIface) rfl rfl HR.out rfl rfl ⟨HD.out.1, rfl, HD.out.2⟩

set_option maxHeartbeats 8000000 in
/-- A part that there is not. -/
theorem part_none (hr : ReadV w vs L) (_hn : L.length ≤ 1000) (hm : MAt w mp c a h s) (h1 : ¬ (0 ≤ F ∧ F < L.length)) (h2 : ¬ (F = -1 ∧ 0 ≤ H ∧ H < m)) :
    Calls Tryd.prog 69 #[defV name kind (.slice po pn pc) cmp, partV (F, H), .agg #[.slice ao m cap, .slice co n2 cap2], vs] w fun e w' => Same (Blk mp) w w' ∧ e = .returned (.tuple #[V.nil.val, errN 60]) ∧ MAt w' mp c a h s := by
  have hI := PartI.start w name kind (.slice po pn pc) cmp (F, H) (.slice ao m cap) (.slice co n2 cap2) V.nil
  obtain ⟨vo, vc, rfl⟩ := readV_len hr
  have HR := Lib.hid hI.r; have HD := Lib.hid (hI.done hm)
  clear hI hm hr
  by_cases f0 : 0 ≤ F
  · have f1 : ¬ F < (L.length : Int) := fun h => h1 ⟨f0, h⟩
    have f2 : (F == -1) = false := by simp; omega
    clear h1 h2
    go_enter Tryd.func69, Tryd.ntmps69
    go_wp2_with fail
    exact vret (x := V.nil) (v := errN 60) rfl rfl HR.out rfl rfl ⟨HD.out.1, rfl, HD.out.2⟩
  · by_cases f2 : F = -1
    · subst f2
      by_cases g0 : 0 ≤ H
      · have g1 : ¬ H < (m : Int) := fun h => h2 ⟨rfl, g0, h⟩
        clear h1 h2 f0
        go_enter Tryd.func69, Tryd.ntmps69
        go_wp2_with fail
        exact vret (x := V.nil) (v := errN 60) rfl rfl HR.out rfl rfl ⟨HD.out.1, rfl, HD.out.2⟩
      · clear h1 h2 f0
        go_enter Tryd.func69, Tryd.ntmps69
        go_wp2_with fail
        exact vret (x := V.nil) (v := errN 60) rfl rfl HR.out rfl rfl ⟨HD.out.1, rfl, HD.out.2⟩
    · have f3 : (F == -1) = false := by simp [f2]
      clear h1 h2 f2
      go_enter Tryd.func69, Tryd.ntmps69
      go_wp2_with fail
      exact vret (x := V.nil) (v := errN 60) rfl rfl HR.out rfl rfl ⟨HD.out.1, rfl, HD.out.2⟩

theorem MAt.ne_cells {W : World} (hm : MAt W mp c a h s) {b : Nat} {cs : Array Value} {t : TypeId} {fr : Nat × Nat} (hb : W.heap[b]? = some (.cells cs t fr)) (ht : t ≠ 72) : ¬ Blk mp b := by
  rcases hm with rfl | ⟨m, rfl, hm⟩
  · intro h; cases h
  · intro h
    cases h
    have := hb.symm.trans hm
    simp at this
    exact ht this.2.1

theorem ExTold.shape {wh : ByteArray} {n : Int} {e : Ending} {w' : World} (h : ExTold wh n L mp c a h s e w') : ∃ (x : V) (er : Value), e = .returned (.tuple #[x.val, er]) := by
  rcases h with ⟨_, _, e, _⟩ | ⟨_, _, ⟨p, e, _⟩, _⟩ | ⟨_, ⟨p, q, e, _⟩, _⟩
  · exact ⟨_, _, e⟩
  · exact ⟨_, _, e⟩
  · exact ⟨_, _, e⟩

theorem ExTold.same {wh : ByteArray} {n : Int} {e : Ending} {w1 w2 : World} {F : Nat → Prop} (ht : ExTold wh n L mp c a h s e w1) (hs : Same F w1 w2) (hF : ∀ k, Blk mp k → ¬ F k) (hO : ∀ k o, w1.heap[k]? = some (.cells o 52 (0, 0)) → ¬ F k) (hM : ∀ k o, w1.heap[k]? = some (.cells o 43 (0, 0)) → ¬ F k) : ExTold wh n L mp c a h s e w2 := by
  rcases ht with ⟨h1, h2, h3, h4⟩ | ⟨h1, h2, ⟨p, h3, h5⟩, h4⟩ | ⟨h1, ⟨p, q, h3, h5, h6⟩, h4⟩
  · exact Or.inl ⟨h1, h2, h3, h4.same hs hF⟩
  · exact Or.inr (Or.inl ⟨h1, h2, ⟨p, h3, hs.obj h5 (hO _ _ h5)⟩, h4.same hs hF⟩)
  · exact Or.inr (Or.inr ⟨h1, ⟨p, q, h3, hs.obj h5 (hO _ _ h5), hs.obj h6 (hM _ _ h6)⟩, h4.same hs hF⟩)

set_option maxHeartbeats 8000000 in
/-- A part that an extractor tells. -/
theorem part_hook (hr : ReadV w vs L) (hok : ∀ y ∈ L, y.ok) (hsz : ∀ y ∈ L, y.s.size ≤ 200) (hn : L.length ≤ 1000) (hm : MAt w mp c a h s) (hsm : MSmall c a s) (k B : Nat) (hk : k < 5)
    (hf : FnRow w B mp 92 exF (.slice ao 5 cap) 5) :
    Calls Tryd.prog 69 #[defV name kind (.slice po pn pc) cmp, partV (-1, (k : Int)), .agg #[.slice ao 5 cap, .slice co n2 cap2], vs] w fun e w' => Same (Blk mp) w w' ∧ ExTold name k L mp c a h s e w' := by
  have hI := PartI.start w name kind (.slice po pn pc) cmp (-1, (k : Int)) (.slice ao 5 cap) (.slice co n2 cap2) V.nil
  obtain ⟨vo, vc, rfl⟩ := readV_len hr
  obtain ⟨g, cap', bm, bn, e1, hcell, hbm, hbn, ⟨cs, hg⟩, hc5, hcm⟩ := (hf.same hI.same (fun _ _ _ => id)).at k hk
  cases e1
  unfold maxLen at hcm
  have hkl : (k : Int) < 5 := by omega
  have HI := Lib.hid hI; have HR := Lib.hid (hr.same hI.same); have HM := Lib.hid (hm.same hI.same (fun _ _ => id)); have HM0 := Lib.hid hm; have HOK := Lib.hid hok; have HSZ := Lib.hid hsz; have HBM := Lib.hid hbm; have HBN := Lib.hid hbn; have HG := Lib.hid hg
  clear hI hm hr hf hok hsz hbm hbn hg
  go_enter Tryd.func69, Tryd.ntmps69
  go_upto_region 4 with fail
  generalize hW : partWy w name kind (.slice po pn pc) cmp (-1, (k : Int)) (.slice (some ⟨g, 0, none⟩) 5 cap) (.slice co n2 cap2) V.nil = W at *
  have hW2 : (((w.alloc (.cells #[.string name, .int .i64 kind, .slice po pn pc, .int .i64 cmp] 68)).alloc (.cells #[.int .i64 (-1), .int .i64 (k : Int)] 81)).alloc (.cells #[.slice (some ⟨g, 0, none⟩) 5 cap, .slice co n2 cap2] 76)).alloc (.cells #[.int .i64 0, .int .i64 0, .string ⟨#[]⟩, .float .f64 0] 38) = W := hW
  rw [hW2]
  clear hW hW2
  obtain ⟨d0, d1, d2, d3⟩ := def_cells HI.out.d
  obtain ⟨p0, p1⟩ := part_cells HI.out.p
  obtain ⟨g0, g1, gf⟩ := hooks_cells HI.out.h
  have hex := fun (W' : World) (hs : Same (fun _ => False) W W') => hextract_play (wh := name) (n := (k : Int)) (HR.out.same hs) HOK.out HSZ.out hn (hs.one HBM.out id) (hs.one HBN.out id) (HM.out.same hs (fun _ _ => id)) hsm
  have HEX := Lib.hid hex
  have ng : ¬ Blk mp g := HM.out.ne_cells HG.out (by decide)
  have nlt : ∀ b, w.heap.size ≤ b → ¬ Blk mp b := fun b hb h => by have := HM0.out.lt h; omega
  have ngr : g ≠ w.heap.size + 1 + 1 + 1 := fun e => by
    have h1 := HG.out
    rw [e] at h1
    have := h1.symm.trans HI.out.r
    simp at this
  have n1 : w.heap.size ≠ w.heap.size + 1 + 1 + 1 := by omega
  have n2 : w.heap.size + 1 ≠ w.heap.size + 1 + 1 + 1 := by omega
  have n3 : w.heap.size + 1 + 1 ≠ w.heap.size + 1 + 1 + 1 := by omega
  replace p1 : W.cell? ⟨w.heap.size + 1, 1, none⟩ = some (.int .i64 (k : Int)) := p1
  clear hex d1 d2 d3 p0 g1 gf
  go_region_held3 (fun W' => W'.cell? ⟨w.heap.size, 0, none⟩ = some (.string name) ∧ W'.cell? ⟨w.heap.size + 1 + 1, 0, none⟩ = some (.slice (some ⟨g, 0, none⟩) 5 cap) ∧ W'.cell? ⟨w.heap.size + 1, 1, none⟩ = some (.int .i64 (k : Int)) ∧ W'.cell? ⟨g, k, none⟩ = some (exF bm bn))
    (first | (with_reducible exact ⟨j1, j2, j3, j4⟩) | (with_reducible exact ⟨cell_offo j1 n1, cell_offo j2 n3, cell_offo j3 n2, cell_offo j4 ngr⟩) | exact ⟨d0, g0, p1, hcell⟩)
    (first | (go_at_call 26; refine (HEX.out _ ((Same.refl _ W).drew)).mono ?_; rintro e w2 ⟨hs2, ht⟩; obtain ⟨x, er, rfl⟩ := ht.shape; have hs3 : Same (Blk mp) W w2 := (((Same.refl (fun _ => False) W).drew).weaken (fun _ _ h => h.elim)).trans hs2 (fun _ _ h => h); have j1 := ocell hs3 d0 (nlt _ (by simp only; omega)); have j2 := ocell hs3 g0 (nlt _ (by simp only; omega)); have j3 := ocell hs3 p1 (nlt _ (by simp only; omega)); have j4 := ocell hs3 hcell ng; have hob : w2.heap[w.heap.size + 1 + 1 + 1]? = some V.nil.obj := hs3.obj HI.out.r (nlt _ (by omega)); obtain ⟨o0, o1, o2, o3⟩ := obj_cells hob; have of := vobj_free hob))
  have hset : Same (fun k => k = w.heap.size + 1 + 1 + 1) w2 (vset4 w2 (w.heap.size + 1 + 1 + 1) x) := vset4_same (Same.refl (fun k => k = w.heap.size + 1 + 1 + 1) w2) (fun _ => rfl) x
  have ht3 : ExTold name k L mp c a h s (.returned (.tuple #[x.val, er])) (vset4 w2 (w.heap.size + 1 + 1 + 1) x) := ht.same hset (fun b hb e => nlt b (by omega) hb) (fun b o hb e => by subst e; have := hb.symm.trans hob; simp at this) (fun b o hb e => by subst e; have := hb.symm.trans hob; simp at this)
  have hr3 := vset4_obj hob x
  have hsd : Same (Blk mp) w (vset4 w2 (w.heap.size + 1 + 1 + 1) x) := ((HI.out.same.weaken (fun _ _ h => h.elim)).trans hs3 (fun _ _ h => h)).trans hset (fun k hk e => by omega)
  have HT3 := Lib.hid ht3; have HR3 := Lib.hid hr3; have HSD := Lib.hid hsd
  clear hset ht3 hr3 hsd ht hs2 hs3 j1 j2 j3 j4 hob o0 o1 o2 o3 of d0 p1 g0 hcell ng nlt ngr
  go_wp2_with fail
  exact vret (x := x) (v := er) rfl rfl HR3.out rfl rfl ⟨HSD.out, HT3.out⟩
end

end Go.Proofs.YtcbapmkipcffgaaDoor
