/-
  HookCalls: the walk: it answers true and turns nothing that was there. Condition: the variable that errors.As reads holds the type of error.
-/
import Derived.Test.YtcbapmkipcffgaaDoorHCalls
namespace Go.Proofs.YtcbapmkipcffgaaDoor
open Go.RowKit Go.Extern.Stop Go.Stop Go.Extern Go.Lib
set_option maxRecDepth 1000000

theorem HooksAt.ex {w : World} {B k : Nat} {ve vce mp : Value} (h : HooksAt w B (.agg #[ve, vce]) mp) (hk : k < 5) :
    ∃ g cap bm bn, ve = .slice (some ⟨g, 0, none⟩) 5 cap ∧ w.cell? ⟨g, k, none⟩ = some (exF bm bn) ∧ One w bm mp 70 ∧ One w bn (.int .i64 k) 3 ∧ (∃ cs, w.heap[g]? = some (.cells cs 92 (0, 0))) ∧ 5 ≤ cap ∧ cap ≤ maxLen := by
  obtain ⟨_, _, e, h1, _⟩ := h
  cases e
  exact h1.at k hk

theorem HooksAt.co {w : World} {B k : Nat} {ve vce mp : Value} (h : HooksAt w B (.agg #[ve, vce]) mp) (hk : k < 3) :
    ∃ g cap bm bn, vce = .slice (some ⟨g, 0, none⟩) 3 cap ∧ w.cell? ⟨g, k, none⟩ = some (coF bm bn) ∧ One w bm mp 70 ∧ One w bn (.int .i64 k) 3 ∧ (∃ cs, w.heap[g]? = some (.cells cs 98 (0, 0))) ∧ 3 ≤ cap ∧ cap ≤ maxLen := by
  obtain ⟨_, _, e, _, h1⟩ := h
  cases e
  exact h1.at k hk

/-- What stands in memory all along. -/
structure HcI (W : World) (M hb B : Nat) (L : List V) (ve vce wv : Value) (c a s : Int) (w : World) : Prop where
  same : Same (fun k => W.heap.size ≤ k) W w
  hM : W.heap.size ≤ M
  mt : ∃ h, w.heap[M]? = some (meterObj c a h s)
  hk : w.heap[hb]? = some (hooksObj ve vce)
  hne : hb ≠ M
  at_ : HooksAt w B (.agg #[ve, vce]) (.pointer (some ⟨M, 0, none⟩))
  was : w.ownsRow (M + 1) 38 4 wv L.length (vals L)
  hg : Handle w

theorem HcI.blk {W w w' : World} {M hb B : Nat} {L : List V} {ve vce wv : Value} {c a s c' a' s' : Int} (h : HcI W M hb B L ve vce wv c a s w) (hs : Same (Blk (.pointer (some ⟨M, 0, none⟩))) w w') (hm : ∃ h, w'.heap[M]? = some (meterObj c' a' h s')) (hgl : 0 < W.heap.size) : HcI W M hb B L ve vce wv c' a' s' w' := by
  have hb' : ∀ k, Blk (.pointer (some ⟨M, 0, none⟩)) k → k = M := fun k hk => by unfold Blk at hk; simp at hk; exact hk.symm
  have hM := h.hM
  obtain ⟨hh, hmt⟩ := h.mt
  exact ⟨SameW.trans h.same hs (fun k hk e => by have := hb' k e; omega), hM, hm, hs.obj h.hk (fun e => h.hne (hb' _ e)), h.hne, HooksAt.blk h.at_ (Or.inr ⟨_, rfl, hmt⟩ : MAt w (.pointer (some ⟨M, 0, none⟩)) c a hh s) hs,
    hs.row h.was (fun j hj e => by have := hb' j e; have := (h.was.lt j hj).1; omega), h.hg.same hs (fun e => by have := hb' _ e; omega)⟩

theorem HcI.fine {W w w' : World} {M hb B : Nat} {L : List V} {ve vce wv : Value} {c a s : Int} (h : HcI W M hb B L ve vce wv c a s w) (hs : Same (fun _ => False) w w') (hgl : 0 < W.heap.size) : HcI W M hb B L ve vce wv c a s w' := by
  obtain ⟨hh, hmt⟩ := h.mt
  exact h.blk (hs.weaken (fun _ _ h => h.elim)) ⟨hh, hs.obj hmt id⟩ hgl

theorem mat_of {w : World} {M : Nat} {c a h s : Int} (hm : MAt w (.pointer (some ⟨M, 0, none⟩)) c a h s) : ∃ h, w.heap[M]? = some (meterObj c a h s) := ⟨h, tells_meter hm (Same.refl _ w)⟩

theorem HcI.set {W w w' : World} {M hb B : Nat} {L : List V} {ve vce wv : Value} {c a s a' h' : Int} (h : HcI W M hb B L ve vce wv c a s w) (hs : Same (fun k => k = M) w w') (hm : w'.heap[M]? = some (meterObj 0 a' h' 0)) (hgl : 0 < W.heap.size) : HcI W M hb B L ve vce wv 0 a' 0 w' :=
  h.blk (hs.weaken (fun k _ e => by subst e; rfl)) ⟨h', hm⟩ hgl

theorem ex2 {wS w' : World} {hb g k : Nat} {mp u v : Value} (h1 : wS.cell? ⟨hb, 0, none⟩ = some u) (h2 : wS.cell? ⟨g, k, none⟩ = some v) (n1 : ¬ Blk mp hb) (n2 : ¬ Blk mp g) (h : Same (Blk mp) wS w') : w'.cell? ⟨hb, 0, none⟩ = some u ∧ w'.cell? ⟨g, k, none⟩ = some v ∧ Same (Blk mp) wS w' :=
  ⟨ocell h h1 n1, ocell h h2 n2, h⟩

theorem le_ad (w : World) (o : Obj) : w.heap.size ≤ (w.alloc o).drew.heap.size := by
  show w.heap.size ≤ (w.alloc o).heap.size
  simp

theorem hc_trans {wS wx wz wy : World} {mp x : Value} {L : List V} {B : Nat} (hx : wx.ownsRow B 38 4 x L.length (vals L)) (h2 : Same (fun k => Blk mp k ∨ x.ownBlock = some k) wz wy) (hz : Same (fun _ => False) wS wz) (hB : wS.heap.size ≤ B) : Same (Blk mp) wS wy :=
  (hz.weaken (F' := Blk mp) (fun _ _ h => h.elim)).trans h2 (fun j hj h => h.elim id (fun h => by have := (hx.lt j h).1; omega))

theorem nil_a {wS wx wy : World} {mp x : Value} {L : List V} (h1 : Same (fun _ => False) (wS.alloc V.nil.obj).drew wx) (hx : wx.ownsRow (wS.alloc V.nil.obj).drew.heap.size 38 4 x L.length (vals L)) (h2 : Same (fun k => Blk mp k ∨ x.ownBlock = some k) wx wy) (hM : ∀ k, Blk mp k → k < wS.heap.size) : wy.heap[wS.heap.size]? = some V.nil.obj ∧ wS.heap.size ≤ wS.heap.size := by
  have h0 : ((wS.alloc V.nil.obj).drew).heap[wS.heap.size]? = some V.nil.obj := heap_alloc_new wS V.nil.obj
  have hsz : (wS.alloc V.nil.obj).drew.heap.size = wS.heap.size + 1 := by show (wS.alloc V.nil.obj).heap.size = _; simp
  refine ⟨h2.obj (h1.obj h0 id) (fun h => h.elim (fun h => by have := hM _ h; omega) (fun h => by have := (hx.lt _ h).1; omega)), Nat.le_refl _⟩

theorem nil_b {wS wx wy : World} {mp x : Value} {L : List V} {B : Nat} (h0 : Same (fun _ => False) wS wx) (hx : wx.ownsRow B 38 4 x L.length (vals L)) (h2 : Same (fun k => Blk mp k ∨ x.ownBlock = some k) (wx.alloc V.nil.obj) wy) (hM : ∀ k, Blk mp k → k < wS.heap.size) : wy.heap[wx.heap.size]? = some V.nil.obj ∧ wS.heap.size ≤ wx.heap.size := by
  have hs := h0.size
  exact ⟨h2.obj (heap_alloc_new wx V.nil.obj) (fun h => h.elim (fun h => by have := hM _ h; omega) (fun h => by have := (hx.lt _ h).2; omega)), hs⟩

theorem endAB {W wS wy : World} {M hb B b b15 : Nat} {L : List V} {ve vce wv : Value} {h : Int} {y : V} (hI : HcI W M hb B L ve vce wv 0 0 0 wS) (hT2 : Same (Blk (.pointer (some ⟨M, 0, none⟩))) wS wy) (hmy : MAt wy (.pointer (some ⟨M, 0, none⟩)) (0 + 1) 0 h 0) (hN : wy.heap[b]? = some V.nil.obj ∧ wS.heap.size ≤ b) (hv : wS.heap[b15]? = some y.obj) (h15 : b15 ≠ M) (hgl : 0 < W.heap.size) :
    HcI W M hb B L ve vce wv 1 0 0 (vset4 wy b y) ∧ (vset4 wy b y).heap[b15]? = some y.obj ∧ (vset4 wy b y).heap[b]? = some y.obj := by
  have hbl : ∀ k, Blk (.pointer (some ⟨M, 0, none⟩)) k → k = M := fun k hk => by unfold Blk at hk; simp at hk; exact hk.symm
  have h4 : Same (Blk (.pointer (some ⟨M, 0, none⟩))) wS (vset4 wy b y) := vset4_same hT2 (fun h => absurd h (Nat.not_lt.2 hN.2)) y
  have hmw := tells_meter hmy (Same.refl _ wy)
  have hmS : M < wS.heap.size := by obtain ⟨_, hm⟩ := hI.mt; exact lt_of_block hm
  have hm4 : (vset4 wy b y).heap[M]? = some (meterObj (0 + 1) 0 h 0) := (vset4_same (F := fun k => k = b) (Same.refl _ wy) (fun _ => rfl) y).obj hmw (by have := hN.2; omega)
  exact ⟨hI.blk h4 ⟨h, hm4⟩ hgl, h4.obj hv (fun e => h15 (hbl _ e)), vset4_obj hN.1 y⟩

theorem endC {W wS wy : World} {M hb B b15 : Nat} {L : List V} {ve vce wv : Value} {h : Int} {y : V} (hI : HcI W M hb B L ve vce wv 0 0 0 wS) (hT2 : Same (Blk (.pointer (some ⟨M, 0, none⟩))) wS wy) (hmy : MAt wy (.pointer (some ⟨M, 0, none⟩)) (0 + 1) 0 h 0) (hv : wS.heap[b15]? = some y.obj) (h15 : b15 ≠ M) (hgl : 0 < W.heap.size) :
    HcI W M hb B L ve vce wv 1 0 0 (wy.alloc y.obj) ∧ (wy.alloc y.obj).heap[b15]? = some y.obj ∧ (wy.alloc y.obj).heap[wy.heap.size]? = some y.obj := by
  have hbl : ∀ k, Blk (.pointer (some ⟨M, 0, none⟩)) k → k = M := fun k hk => by unfold Blk at hk; simp at hk; exact hk.symm
  have ha := (Same.refl (fun _ => False) wy).alloc y.obj
  have hmw := tells_meter hmy ha
  exact ⟨hI.blk (hT2.alloc _) ⟨h, hmw⟩ hgl, ha.obj (hT2.obj hv (fun e => h15 (hbl _ e))) id, heap_alloc_new _ _⟩

theorem co_calm {wh : ByteArray} {n : Int} {A B : List V} {mp : Value} {c a h s : Int} {e : Ending} {w' : World} (ht : CoTold wh n A B mp c a h s e w') (hst : ¬ Strikes mp c a) : ∃ X : Int, -1 ≤ X ∧ X ≤ 1 ∧ e = .returned (.tuple #[.int .i64 X, .nilIface]) ∧ MAt w' mp (c + 1) a h s := by
  rcases ht with ⟨_, h1, h2⟩ | ⟨h1, _⟩
  · exact ⟨_, (cmpR_range n A B).1, (cmpR_range n A B).2, h1, h2⟩
  · exact absurd h1 hst

theorem co_mark {wh : ByteArray} {n : Int} {A B : List V} {mp : Value} {c a h s : Int} {e : Ending} {w' : World} (ht : CoTold wh n A B mp c a h s e w') (hst : Strikes mp c a) : ∃ p q, e = .returned (.tuple #[.int .i64 0, fltV p]) ∧ w'.heap[p]? = some (faultObj wh (markI q) .nilIface) ∧ w'.heap[q]? = some (markObj (1000 + a)) ∧ MAt w' mp (c + 1) a h (s + 1) := by
  rcases ht with ⟨h1, _⟩ | ⟨_, ⟨p, q, h1, h2, h3⟩, h4⟩
  · exact absurd hst h1
  · exact ⟨p, q, h1, h2, h3, h4⟩

theorem mt_calm {L : List V} {n : Int} {y : V} {w : World} {mp : Value} {c a h s : Int} {e : Ending} {w' : World} (ht : MtTold L n y w mp c a h s e w') (hst : ¬ Strikes mp c a) : ∃ u, e = .returned (.tuple #[u, .nilIface]) ∧ w'.ownsRow (w.heap.size + 6) 38 4 u (setL L n y).length (vals (setL L n y)) ∧ MAt w' mp (c + 1) a h s := by
  rcases ht with ⟨_, ⟨u, h1, h2⟩, h3⟩ | ⟨h1, _⟩
  · exact ⟨u, h1, h2, h3⟩
  · exact absurd h1 hst

theorem mt_mark {L : List V} {n : Int} {y : V} {w : World} {mp : Value} {c a h s : Int} {e : Ending} {w' : World} (ht : MtTold L n y w mp c a h s e w') (hst : Strikes mp c a) : ∃ p q, e = .returned (.tuple #[.slice none 0 0, fltV p]) ∧ w'.heap[p]? = some (faultObj ⟨#[]⟩ (markI q) .nilIface) ∧ w'.heap[q]? = some (markObj (1000 + a)) ∧ MAt w' mp (c + 1) a h (s + 1) := by
  rcases ht with ⟨h1, _⟩ | ⟨_, ⟨p, q, h1, h2, h3⟩, h4⟩
  · exact absurd hst h1
  · exact ⟨p, q, h1, h2, h3, h4⟩

theorem setL_ok {L : List V} {n : Int} (h : ∀ x ∈ L, x.ok) : ∀ x ∈ setL L n ⟨1, 7, ⟨#[]⟩, 0⟩, x.ok := by
  have h7 : (⟨1, 7, ⟨#[]⟩, 0⟩ : V).ok := num_ok (n := 7) (by omega)
  intro x hx
  unfold setL at hx
  split at hx
  · rcases List.mem_or_eq_of_mem_set hx with h1 | rfl
    · exact h x h1
    · exact h7
  · simp only [List.mem_append, List.mem_singleton] at hx
    rcases hx with h1 | rfl
    · exact h x h1
    · exact h7

/-- What stands behind the extractor's own call. -/
def HcCut (W : World) (M hb B b15 : Nat) (L : List V) (ve vce wv : Value) (y : V) (s17 s18 : Value) (wx : World) : Prop :=
  s18 = .nilIface ∧ ∃ b, s17 = .pointer (some ⟨b, 0, none⟩) ∧ HcI W M hb B L ve vce wv 1 0 0 wx ∧ wx.heap[b15]? = some y.obj ∧ wx.heap[b]? = some y.obj

theorem cutAB {W wS wy : World} {M hb B b b15 : Nat} {L : List V} {ve vce wv : Value} {h : Int} {y : V} (hI : HcI W M hb B L ve vce wv 0 0 0 wS) (hT2 : Same (Blk (.pointer (some ⟨M, 0, none⟩))) wS wy) (hmy : MAt wy (.pointer (some ⟨M, 0, none⟩)) (0 + 1) 0 h 0) (hN : wy.heap[b]? = some V.nil.obj ∧ wS.heap.size ≤ b) (hv : wS.heap[b15]? = some y.obj) (h15 : b15 ≠ M) (hgl : 0 < W.heap.size) :
    HcCut W M hb B b15 L ve vce wv y (.pointer (some ⟨b, 0, none⟩)) .nilIface (vset4 wy b y) := ⟨rfl, _, rfl, endAB hI hT2 hmy hN hv h15 hgl⟩

theorem cutC {W wS wy : World} {M hb B b15 : Nat} {L : List V} {ve vce wv : Value} {h : Int} {y : V} (hI : HcI W M hb B L ve vce wv 0 0 0 wS) (hT2 : Same (Blk (.pointer (some ⟨M, 0, none⟩))) wS wy) (hmy : MAt wy (.pointer (some ⟨M, 0, none⟩)) (0 + 1) 0 h 0) (hv : wS.heap[b15]? = some y.obj) (h15 : b15 ≠ M) (hgl : 0 < W.heap.size) :
    HcCut W M hb B b15 L ve vce wv y (.pointer (some ⟨wy.heap.size, 0, none⟩)) .nilIface (wy.alloc y.obj) := ⟨rfl, _, rfl, endC hI hT2 hmy hv h15 hgl⟩

theorem ext_calm {n : Int} {L : List V} {w : World} {mp : Value} {c h s : Int} {e : Ending} {w' : World} (ht : ExtEnd n L w mp c 0 h s e w') : e = .returned (.tuple #[(exV n L).val, .nilIface]) ∧ MAt w' mp (c + 1) 0 h s := by
  rcases ht with ⟨_, h1, h2⟩ | ⟨h1, _⟩
  · exact ⟨h1, h2⟩
  · exact absurd rfl h1.2.1

set_option maxHeartbeats 20000000 in
theorem hookCalls_any {W : World} {n a0 how : Int} {va vb : Value} {L N : List V} (ra : ReadV W va L) (rb : ReadV W vb N) (oka : ∀ x ∈ L, x.ok) (okb : ∀ x ∈ N, x.ok) (na : L.length ≤ maxLen) (nb : N.length ≤ maxLen) (hg : Handle W) :
    Calls Tryd.prog 10 #[.int .i64 n, va, vb, .int .i64 a0, .int .i64 how] W fun e w' => e = .returned (.bool true) ∧ Below W.heap.size W w' := by
  obtain ⟨ao, ac, rfl⟩ := readV_len ra
  obtain ⟨bo, bc, rfl⟩ := readV_len rb
  have hgl := hg.lt
  have HG0 := Lib.hid hg; have RA := Lib.hid ra; have RB := Lib.hid rb; have OA := Lib.hid oka; have OB := Lib.hid okb; have NA := Lib.hid na; have NB := Lib.hid nb; have GL := Lib.hid hgl
  clear ra rb oka okb na nb hg hgl
  go_enter Tryd.func10, Tryd.ntmps10
  go_wp2_with fail
  refine (known_any HG0.out).mono ?_
  rintro e w1 ⟨rfl, hs1⟩
  have HS1 := Lib.hid hs1; have HG1 := Lib.hid (HG0.out.same hs1 id)
  clear hs1
  go_wp2_with fail
  refine (few_any (RA.out.same HS1.out) OA.out NA.out 10).mono ?_
  rintro e w1' ⟨rfl, rfl⟩
  rcases few_split (L := L) (m := 10) with hf | hf
  · rw [hf]
    clear hf
    go_wp2_with fail
    go_ret
    exact ⟨rfl, same_to_below (SameW.of HS1.out)⟩
  have hLA := few_many hf
  have hsa : ∀ y ∈ L, y.s.size ≤ 200 := by
    intro y hy
    simp only [Bool.and_eq_true, fewV, List.all_eq_true, decide_eq_true_eq] at hf
    exact hf.1 y hy
  have SA := Lib.hid hsa; have LA := Lib.hid (show L.length ≤ 10 by omega)
  rw [hf]
  clear hf hsa hLA
  go_wp2_with fail
  refine (few_any (RB.out.same HS1.out) OB.out NB.out 10).mono ?_
  rintro e w1' ⟨rfl, rfl⟩
  rcases few_split (L := N) (m := 10) with hf | hf
  · rw [hf]
    clear hf
    go_wp2_with fail
    go_ret
    exact ⟨rfl, same_to_below (SameW.of HS1.out)⟩
  have hLB := few_many hf
  have hsb : ∀ y ∈ N, y.s.size ≤ 200 := by
    intro y hy
    simp only [Bool.and_eq_true, fewV, List.all_eq_true, decide_eq_true_eq] at hf
    exact hf.1 y hy
  have SB := Lib.hid hsb; have LB := Lib.hid (show N.length ≤ 10 by omega)
  rw [hf]
  clear hf hsb hLB
  have hm3 := i64_and3 n
  have hm1 := i64_and1' a0
  obtain ⟨k, hk⟩ : ∃ k : Nat, n % 4 = (k : Int) := ⟨(n % 4).toNat, by omega⟩
  have hk4 : k < 4 := by omega
  have HK4 := Lib.hid hk4
  rw [hk] at hm3
  have HM2 := Lib.hid (heap_alloc_new w1 (meterObj 0 0 0 0))
  go_wp2_with fail
  refine (hooks_any (Or.inr ⟨_, rfl⟩) _).mono ?_
  rintro e w2 ⟨hv, rfl, hs2, ve, vce, rfl, hfx, hfc⟩
  obtain ⟨ea, ec, rfl⟩ := hfx.view
  obtain ⟨cca, cc, rfl⟩ := hfc.view
  have h12 : Same (fun _ => False) w1 w2 := ((Same.refl (fun _ => False) w1).alloc (meterObj 0 0 0 0)).trans hs2 (fun _ _ h => h)
  have HM3 := Lib.hid (((Same.refl (fun _ => False) w2).alloc (hooksObj (.slice ea 5 ec) (.slice cca 3 cc))).obj (hs2.obj HM2.out id) id)
  have HK3 := Lib.hid (heap_alloc_new w2 (hooksObj (.slice ea 5 ec) (.slice cca 3 cc)))
  have H13 := Lib.hid (h12.alloc (hooksObj (.slice ea 5 ec) (.slice cca 3 cc)))
  have HA3 := Lib.hid (show HooksAt (w2.alloc (hooksObj (.slice ea 5 ec) (.slice cca 3 cc))) (w1.alloc (meterObj 0 0 0 0)).heap.size (.agg #[.slice ea 5 ec, .slice cca 3 cc]) (.pointer (some ⟨w1.heap.size, 0, none⟩)) from ⟨_, _, rfl, hfx.same ((Same.refl (fun _ => False) w2).alloc _) (fun _ _ _ => id), hfc.same ((Same.refl (fun _ => False) w2).alloc _) (fun _ _ _ => id)⟩)
  have hM12 := lt_of_block (hs2.obj HM2.out id)
  have HM12 := Lib.hid hM12
  clear hs2 h12 hfx hfc hM12
  go_wp2_with fail
  generalize w2.alloc (hooksObj (.slice ea 5 ec) (.slice cca 3 cc)) = w3 at *
  refine (copy_any ((RA.out.same HS1.out).same H13.out) (by have := LA.out; omega)).mono ?_
  rintro e w4 ⟨t, rfl, ho4, hs4⟩
  obtain ⟨tto, tc, rfl⟩ := readV_len (ReadV.own ho4)
  have hI4 : HcI W w1.heap.size w2.heap.size (w1.alloc (meterObj 0 0 0 0)).heap.size L (.slice ea 5 ec) (.slice cca 3 cc) (.slice tto L.length tc) 0 0 0 w4 :=
    ⟨SameW.of ((HS1.out.trans H13.out (fun _ _ h => h)).trans hs4 (fun _ _ h => h)), HS1.out.size, ⟨0, hs4.obj HM3.out id⟩, hs4.obj HK3.out id, by have := HM12.out; omega, ⟨_, _, rfl, HA3.out.choose_spec.choose_spec.2.1 |> fun h => by obtain ⟨_, _, e, h1, _⟩ := HA3.out; cases e; exact h1.same hs4 (fun _ _ _ => id), by obtain ⟨_, _, e, _, h1⟩ := HA3.out; cases e; exact h1.same hs4 (fun _ _ _ => id)⟩, own_down ho4 (by have := lt_of_block HM3.out; omega), (HG1.out.same H13.out id).same hs4 id⟩
  have HI4 := Lib.hid hI4
  clear ho4 hs4 hI4
  go_wp2_with fail
  obtain ⟨hh4, hmt4⟩ := HI4.out.mt
  refine (mset_any hmt4 (a0 % 2) how (by omega)).mono ?_
  rintro e w5 ⟨rfl, hs5, hm5⟩
  have HI5 := Lib.hid (HI4.out.set hs5 hm5 GL.out)
  clear hs5 hm5 hmt4
  obtain ⟨g, cap', bm, bn, e1, hcell, hbm, hbn, ⟨cs, hgo⟩, hc5, hcm⟩ := HI5.out.at_.ex (k := k) (by omega)
  cases e1
  unfold maxLen at hcm
  obtain ⟨g0, g1, _⟩ := hooks_cells HI5.out.hk
  obtain ⟨hh5, hmt5⟩ := HI5.out.mt
  have hkl : (k : Int) < 5 := by omega
  have HEX := Lib.hid (hextract_play (wh := ⟨#[120]⟩) (n := (k : Int)) (mp := (.pointer (some ⟨w1.heap.size, 0, none⟩))) (c := 0) (a := a0 % 2) (h := hh5) (s := 0) (RA.out.keep HI5.out.same) OA.out SA.out (by have := LA.out; omega) hbm hbn (Or.inr ⟨_, rfl, hmt5⟩) ⟨by decide, by decide, by omega, by omega, by decide, by decide⟩)
  clear hbm hbn hgo g1 hmt5
  go_wp2_with fail
  refine HEX.out.mono ?_
  rintro e w6 ⟨hs6, ht⟩
  rcases ht with ⟨hst, hiv, rfl, hmt⟩ | ⟨hst, hiv, ⟨p, rfl, hf⟩, hmt⟩ | ⟨hst, ⟨p, q, rfl, hf, hq⟩, hmt⟩
  · skip
    have HI6 := Lib.hid ((HI5.out.blk hs6 (mat_of hmt) GL.out).fine ((Same.refl (fun _ => False) w6).alloc (exV (k : Int) L).obj) GL.out)
    have HB6 := Lib.hid (heap_alloc_new w6 (exV (k : Int) L).obj)
    have HST := Lib.hid hst; have HM6 := Lib.hid (lt_of_block (tells_meter hmt (Same.refl _ w6)))
    have HOKX := Lib.hid (exV_ok (n := (k : Int)) OA.out SA.out)
    have hyv : ∃ y, y = exV (k : Int) L := ⟨_, rfl⟩
    obtain ⟨y, hy⟩ := hyv
    have HY := Lib.hid hy
    rw [← hy] at HI6 HB6 HOKX ⊢
    obtain ⟨yk, yi, ys, yf⟩ := y
    clear hs6 hmt hst hiv hy g0 hcell
    go_wp2_with fail
    generalize hw7 : w6.alloc (V.obj ⟨yk, yi, ys, yf⟩) = w7 at *
    try rw [show w6.alloc (.cells #[.int .i64 yk, .int .i64 yi, .string ys, .float .f64 yf] 38) = w7 from hw7]
    clear hw7
    refine (vals_self (RA.out.keep HI6.out.same) (ReadV.own HI6.out.was) OA.out NA.out).mono ?_
    rintro e w8 ⟨rfl, hs8⟩
    have HI8 := Lib.hid (HI6.out.fine hs8 GL.out); have HB8 := Lib.hid (hs8.obj HB6.out id)
    clear hs8
    go_wp2_with fail
    obtain ⟨hh8, hmt8⟩ := HI8.out.mt
    refine (told_nil hmt8 _).mono ?_
    rintro e w9 ⟨rfl, hs9⟩
    have HI9 := Lib.hid (HI8.out.fine hs9 GL.out); have HB9 := Lib.hid (hs9.obj HB8.out id)
    obtain ⟨x0, x1, x2, x3⟩ := obj_cells HB9.out
    clear hs9 hmt8
    go_wp2_with fail
    obtain ⟨hh9, hmt9⟩ := HI9.out.mt
    refine (mset_any hmt9 0 0 (by decide)).mono ?_
    rintro e wS ⟨rfl, hsS, hmS⟩
    have HIS := Lib.hid (HI9.out.set hsS hmS GL.out); have HMS := Lib.hid hmS
    have HBS := Lib.hid (hsS.obj HB9.out (by have := HM6.out; omega))
    clear hsS hmS hmt9 x0 x1 x2 x3
    obtain ⟨gS, capS, bmS, bnS, e1, hcS, hbmS, hbnS, ⟨csS, hgS⟩, _, _⟩ := HIS.out.at_.ex (k := k) (by have := HK4.out; omega)
    cases e1
    obtain ⟨s0, _, _⟩ := hooks_cells HIS.out.hk
    have hmatS : MAt wS (.pointer (some ⟨w1.heap.size, 0, none⟩)) 0 0 _ 0 := Or.inr ⟨_, rfl, HMS.out⟩
    have n1 : ¬ Blk (.pointer (some ⟨w1.heap.size, 0, none⟩)) w2.heap.size := fun e => by have := hmatS.ne_cells HIS.out.hk (by decide); exact this e
    have n2 : ¬ Blk (.pointer (some ⟨w1.heap.size, 0, none⟩)) g := hmatS.ne_cells hgS (by decide)
    have HCP := Lib.hid (fun (w' : World) (h : Same (fun _ => False) wS w') => copy_any ((ReadV.own HIS.out.was).same h) (by have := LA.out; omega))
    have HXR := Lib.hid (fun (w' : World) (x : Value) (B : Nat) (h : Same (fun _ => False) wS w') (hx : w'.ownsRow B 38 4 x L.length (vals L)) => extr_any (n := (k : Int)) hx OA.out SA.out (by have := LA.out; omega) (h.one hbmS id) (h.one hbnS id) (hmatS.same h (fun _ _ => id)) ⟨by decide, by decide, by decide, by decide, by decide, by decide⟩)
    have hen := extr_enter
    have HBL := Lib.hid (fun k (hk : Blk (.pointer (some ⟨w1.heap.size, 0, none⟩)) k) => hmatS.lt hk)
    clear hbmS hbnS hgS hmatS
    go_upto_region 15 with fail
    go_cut [17, 18] from 78 to 88 (fun s17 s18 wx => HcCut W w1.heap.size w2.heap.size (w1.alloc (meterObj 0 0 0 0)).heap.size w6.heap.size L (.slice (some ⟨g, 0, none⟩) 5 ec) (.slice cca 3 cc) (.slice tto L.length tc) ⟨yk, yi, ys, yf⟩ s17 s18 wx)
    case first =>
      go_region_held3 (fun w' => w'.cell? ⟨w2.heap.size, 0, none⟩ = some (.slice (some ⟨g, 0, none⟩) 5 ec) ∧ w'.cell? ⟨g, k, none⟩ = some (exF bmS bnS) ∧ Same (Blk (.pointer (some ⟨w1.heap.size, 0, none⟩))) wS w')
        ((refine ex2 s0 hcS n1 n2 ?_; first | (with_reducible exact vset4_same hT2 (fun h => absurd h (Nat.not_lt.2 hN.2)) ⟨yk, yi, ys, yf⟩) | (repeat (first | with_reducible assumption | exact Same.refl _ _ | refine Same.drew ?_ | refine Same.alloc ?_ _))))
        (first
          | (go_at_call 16; refine (HCP.out _ ?_).mono ?_; (focus (repeat (first | exact Same.refl _ _ | refine Same.drew ?_ | refine Same.alloc ?_ _))); rintro e wx ⟨x, rfl, hx, hsx⟩; obtain ⟨xo, xc, rfl⟩ := readV_len (ReadV.own hx); have hT0 : Same (fun _ => False) wS wx := Same.trans (by repeat (first | exact Same.refl _ _ | refine Same.drew ?_ | refine Same.alloc ?_ _)) hsx (fun _ _ h => h); have hT : Same (Blk (.pointer (some ⟨w1.heap.size, 0, none⟩))) wS wx := hT0.weaken (fun _ _ h => h.elim))
          | (go_at_call 88; (first | with_reducible refine (HXR.out wx _ _ hT0 hx).mono ?_ | with_reducible refine (HXR.out (wx.alloc V.nil.obj) _ _ (hT0.alloc _) (hx.alloc _)).mono ?_); rintro e wy ⟨hsy, hty⟩; obtain ⟨rfl, hmy⟩ := ext_calm hty; rw [← HY.out]; have hT2 : Same (Blk (.pointer (some ⟨w1.heap.size, 0, none⟩))) wS wy := hc_trans hx hsy (by first | with_reducible exact hT0 | with_reducible exact hT0.alloc _) (by first | with_reducible exact le_ad _ _ | exact Nat.le_refl _); (first | with_reducible have hN := nil_a hsx hx hsy HBL.out | with_reducible have hN := nil_b hT0 hx hsy HBL.out | skip); (first | (obtain ⟨o0, o1, o2, o3⟩ := obj_cells hN.1; have of := vobj_free hN.1; have ol := lt_of_block hN.1) | skip)))
      all_goals go_wp2_with fail
      all_goals go_meet
      all_goals have h15 : w6.heap.size ≠ w1.heap.size := by have := HM6.out; omega
      · with_reducible exact cutC HIS.out hT2 hmy HBS.out h15 GL.out
      · with_reducible exact cutAB HIS.out hT2 hmy hN HBS.out h15 GL.out
      · with_reducible exact cutAB HIS.out hT2 hmy hN HBS.out h15 GL.out
    case rest =>
      obtain ⟨rfl, b17, rfl, hI16, hB16, hC16⟩ := hcut
      have HI16 := Lib.hid hI16
      obtain ⟨x0, x1, x2, x3⟩ := obj_cells hB16
      obtain ⟨z0, z1, z2, z3⟩ := obj_cells hC16
      clear hI16 hB16 hC16 s0 hcS hen n1 n2 HCP HXR
      go_wp2_with fail
      refine (rsame_self ⟨yk, yi, ys, yf⟩ HOKX.out _).mono ?_
      rintro e w17 ⟨rfl, hs17⟩
      have HIa := Lib.hid (HI16.out.fine hs17 GL.out)
      clear hs17 x0 x1 x2 x3 z0 z1 z2 z3
      go_wp2_with fail
      obtain ⟨hha, hmta⟩ := HIa.out.mt
      refine (mset_any hmta (a0 % 2) how (by omega)).mono ?_
      rintro e wb ⟨rfl, hsb', hmb⟩
      have HIb := Lib.hid (HIa.out.set hsb' hmb GL.out); have HMb := Lib.hid hmb
      clear hsb' hmb hmta
      obtain ⟨j, hj⟩ : ∃ j : Nat, (k : Int) % 3 = (j : Int) := ⟨k % 3, by omega⟩
      have hj3 : j < 3 := by omega
      have hj3' : (j : Int) < 3 := by omega
      obtain ⟨gc, capc, bmc, bnc, e1, hcellc, hbmc, hbnc, ⟨csc, hgc⟩, hc3, hcmc⟩ := HIb.out.at_.co hj3
      cases e1
      unfold maxLen at hcmc
      obtain ⟨_, gg1, _⟩ := hooks_cells HIb.out.hk
      have HCO := Lib.hid (hcompare_play (wh := ⟨#[121]⟩) (n := (j : Int)) (mp := (.pointer (some ⟨w1.heap.size, 0, none⟩))) (c := 0) (a := a0 % 2) (s := 0) (RA.out.keep HIb.out.same) (RB.out.keep HIb.out.same) OA.out OB.out SA.out SB.out (by have := LA.out; omega) (by have := LB.out; omega) hbmc hbnc (Or.inr ⟨_, rfl, HMb.out⟩) ⟨by decide, by decide, by omega, by omega, by decide, by decide⟩)
      clear hbmc hbnc hgc hj3
      go_wp2_with fail
      refine HCO.out.mono ?_
      rintro e wc ⟨hsc, htc⟩
      obtain ⟨X, hX1, hX2, rfl, hmc⟩ := co_calm htc HST.out
      have HIc := Lib.hid (HIb.out.blk hsc (mat_of hmc) GL.out)
      clear hsc htc hmc hcellc gg1
      go_wp2_with fail
      obtain ⟨hhc, hmtc⟩ := HIc.out.mt
      refine (told_nil hmtc _).mono ?_
      rintro e wd ⟨rfl, hsd⟩
      have HId := Lib.hid (HIc.out.fine hsd GL.out)
      clear hsd hmtc
      go_wp2_with fail
      obtain ⟨hhd, hmtd⟩ := HId.out.mt
      refine (mset_any hmtd (a0 % 2) how (by omega)).mono ?_
      rintro e we ⟨rfl, hse, hme⟩
      have HIe := Lib.hid (HId.out.set hse hme GL.out); have HMe := Lib.hid hme
      clear hse hme hmtd
      go_wp2_with fail
      refine (setter_any n ⟨1, 7, ⟨#[]⟩, 0⟩ _ _).mono ?_
      rintro e wf ⟨rfl, rfl⟩
      obtain ⟨hsw, hbn', hbv', hbm'⟩ := setW_at we n ⟨1, 7, ⟨#[]⟩, 0⟩ (.pointer (some ⟨w1.heap.size, 0, none⟩))
      have HIf := Lib.hid (HIe.out.fine hsw GL.out)
      have HMU := Lib.hid (hmutate_play (y := ⟨1, 7, ⟨#[]⟩, 0⟩) (mp := (.pointer (some ⟨w1.heap.size, 0, none⟩))) (c := 0) (a := a0 % 2) (s := 0) (RA.out.keep HIf.out.same) (by have := LA.out; omega) hbm' hbn' hbv' (Or.inr ⟨_, rfl, hsw.obj HMe.out id⟩) ⟨by decide, by decide, by omega, by omega, by decide, by decide⟩)
      clear hsw hbn' hbv' hbm'
      go_wp2_with fail
      refine HMU.out.mono ?_
      rintro e wh ⟨hsh, hth⟩
      obtain ⟨u, rfl, hou, hmh⟩ := mt_calm hth HST.out
      obtain ⟨uo, uc, rfl⟩ := readV_len (ReadV.own hou)
      have HOU := Lib.hid hou
      have HIh := Lib.hid (HIf.out.blk hsh (mat_of hmh) GL.out)
      clear hsh hth hmh hou
      go_wp2_with fail
      obtain ⟨hhh, hmth⟩ := HIh.out.mt
      refine (told_nil hmth _).mono ?_
      rintro e wi ⟨rfl, hsi⟩
      have HIi := Lib.hid (HIh.out.fine hsi GL.out); have HOI := Lib.hid (hsi.row HOU.out (fun _ _ => id))
      clear hsi hmth
      go_wp2_with fail
      refine (vals_self (RA.out.keep HIi.out.same) (ReadV.own HIi.out.was) OA.out NA.out).mono ?_
      rintro e wj ⟨rfl, hsj⟩
      have HIj := Lib.hid (HIi.out.fine hsj GL.out); have HOJ := Lib.hid (hsj.row HOI.out (fun _ _ => id))
      clear hsj
      go_wp2_with fail
      refine (set_any (n := n) (y := ⟨1, 7, ⟨#[]⟩, 0⟩) (RA.out.keep HIj.out.same) (by have := LA.out; omega)).mono ?_
      rintro e wk ⟨hsk, so, sc, rfl, hrk, _⟩
      have HIk := Lib.hid (HIj.out.fine hsk GL.out); have HOK := Lib.hid (hsk.row HOJ.out (fun _ _ => id)); have HRK := Lib.hid hrk
      clear hsk hrk
      go_wp2_with fail
      refine (vals_self (A := setL L n ⟨1, 7, ⟨#[]⟩, 0⟩) (ReadV.own HOK.out) HRK.out (setL_ok OA.out) (by have := setL_len (L := L) (n := n) (y := ⟨1, 7, ⟨#[]⟩, 0⟩); have := LA.out; unfold maxLen; omega)).mono ?_
      rintro e wl ⟨rfl, hsl⟩
      have HIl := Lib.hid (HIk.out.fine hsl GL.out)
      clear hsl
      go_wp2_with fail
      go_ret
      exact ⟨rfl, same_to_below HIl.out.same⟩
  · skip
    have HI6 := Lib.hid ((HI5.out.blk hs6 (mat_of hmt) GL.out).fine ((Same.refl (fun _ => False) w6).alloc V.nil.obj) GL.out)
    have HB6 := Lib.hid (heap_alloc_new w6 V.nil.obj)
    have HF6 := Lib.hid (((Same.refl (fun _ => False) w6).alloc V.nil.obj).obj hf id)
    have HST := Lib.hid hst; have HM6 := Lib.hid (lt_of_block (tells_meter hmt (Same.refl _ w6)))
    clear hs6 hmt hst hiv hf g0 hcell
    go_wp2_with fail
    generalize hw7 : w6.alloc (V.obj ⟨0, 0, ⟨#[]⟩, 0⟩) = w7 at *
    try rw [show w6.alloc (.cells #[.int .i64 0, .int .i64 0, .string ⟨#[]⟩, .float .f64 0] 38) = w7 from hw7]
    clear hw7
    refine (vals_self (RA.out.keep HI6.out.same) (ReadV.own HI6.out.was) OA.out NA.out).mono ?_
    rintro e w8 ⟨rfl, hs8⟩
    have HI8 := Lib.hid (HI6.out.fine hs8 GL.out); have HB8 := Lib.hid (hs8.obj HB6.out id)
    have HF8 := Lib.hid (hs8.obj HF6.out id)
    clear hs8
    go_wp2_with fail
    obtain ⟨hh8, hmt8⟩ := HI8.out.mt
    refine (told_value hmt8 HF8.out HI8.out.hg _).mono ?_
    rintro e w9 ⟨rfl, hs9⟩
    have HI9 := Lib.hid (HI8.out.fine hs9 GL.out); have HB9 := Lib.hid (hs9.obj HB8.out id)
    obtain ⟨x0, x1, x2, x3⟩ := obj_cells HB9.out
    clear hs9 hmt8
    go_wp2_with fail
    refine (rsame_self V.nil nil_ok _).mono ?_
    rintro e w10 ⟨rfl, hs10⟩
    have HIa := Lib.hid (HI9.out.fine hs10 GL.out)
    clear hs10 x0 x1 x2 x3
    go_wp2_with fail
    obtain ⟨hha, hmta⟩ := HIa.out.mt
    refine (mset_any hmta (a0 % 2) how (by omega)).mono ?_
    rintro e wb ⟨rfl, hsb', hmb⟩
    have HIb := Lib.hid (HIa.out.set hsb' hmb GL.out); have HMb := Lib.hid hmb
    clear hsb' hmb hmta
    obtain ⟨j, hj⟩ : ∃ j : Nat, (k : Int) % 3 = (j : Int) := ⟨k % 3, by omega⟩
    have hj3 : j < 3 := by omega
    have hj3' : (j : Int) < 3 := by omega
    obtain ⟨gc, capc, bmc, bnc, e1, hcellc, hbmc, hbnc, ⟨csc, hgc⟩, hc3, hcmc⟩ := HIb.out.at_.co hj3
    cases e1
    unfold maxLen at hcmc
    obtain ⟨_, gg1, _⟩ := hooks_cells HIb.out.hk
    have HCO := Lib.hid (hcompare_play (wh := ⟨#[121]⟩) (n := (j : Int)) (mp := (.pointer (some ⟨w1.heap.size, 0, none⟩))) (c := 0) (a := a0 % 2) (s := 0) (RA.out.keep HIb.out.same) (RB.out.keep HIb.out.same) OA.out OB.out SA.out SB.out (by have := LA.out; omega) (by have := LB.out; omega) hbmc hbnc (Or.inr ⟨_, rfl, HMb.out⟩) ⟨by decide, by decide, by omega, by omega, by decide, by decide⟩)
    clear hbmc hbnc hgc hj3
    go_wp2_with fail
    refine HCO.out.mono ?_
    rintro e wc ⟨hsc, htc⟩
    obtain ⟨X, hX1, hX2, rfl, hmc⟩ := co_calm htc HST.out
    have HIc := Lib.hid (HIb.out.blk hsc (mat_of hmc) GL.out)
    clear hsc htc hmc hcellc gg1
    go_wp2_with fail
    obtain ⟨hhc, hmtc⟩ := HIc.out.mt
    refine (told_nil hmtc _).mono ?_
    rintro e wd ⟨rfl, hsd⟩
    have HId := Lib.hid (HIc.out.fine hsd GL.out)
    clear hsd hmtc
    go_wp2_with fail
    obtain ⟨hhd, hmtd⟩ := HId.out.mt
    refine (mset_any hmtd (a0 % 2) how (by omega)).mono ?_
    rintro e we ⟨rfl, hse, hme⟩
    have HIe := Lib.hid (HId.out.set hse hme GL.out); have HMe := Lib.hid hme
    clear hse hme hmtd
    go_wp2_with fail
    refine (setter_any n ⟨1, 7, ⟨#[]⟩, 0⟩ _ _).mono ?_
    rintro e wf ⟨rfl, rfl⟩
    obtain ⟨hsw, hbn', hbv', hbm'⟩ := setW_at we n ⟨1, 7, ⟨#[]⟩, 0⟩ (.pointer (some ⟨w1.heap.size, 0, none⟩))
    have HIf := Lib.hid (HIe.out.fine hsw GL.out)
    have HMU := Lib.hid (hmutate_play (y := ⟨1, 7, ⟨#[]⟩, 0⟩) (mp := (.pointer (some ⟨w1.heap.size, 0, none⟩))) (c := 0) (a := a0 % 2) (s := 0) (RA.out.keep HIf.out.same) (by have := LA.out; omega) hbm' hbn' hbv' (Or.inr ⟨_, rfl, hsw.obj HMe.out id⟩) ⟨by decide, by decide, by omega, by omega, by decide, by decide⟩)
    clear hsw hbn' hbv' hbm'
    go_wp2_with fail
    refine HMU.out.mono ?_
    rintro e wh ⟨hsh, hth⟩
    obtain ⟨u, rfl, hou, hmh⟩ := mt_calm hth HST.out
    obtain ⟨uo, uc, rfl⟩ := readV_len (ReadV.own hou)
    have HOU := Lib.hid hou
    have HIh := Lib.hid (HIf.out.blk hsh (mat_of hmh) GL.out)
    clear hsh hth hmh hou
    go_wp2_with fail
    obtain ⟨hhh, hmth⟩ := HIh.out.mt
    refine (told_nil hmth _).mono ?_
    rintro e wi ⟨rfl, hsi⟩
    have HIi := Lib.hid (HIh.out.fine hsi GL.out); have HOI := Lib.hid (hsi.row HOU.out (fun _ _ => id))
    clear hsi hmth
    go_wp2_with fail
    refine (vals_self (RA.out.keep HIi.out.same) (ReadV.own HIi.out.was) OA.out NA.out).mono ?_
    rintro e wj ⟨rfl, hsj⟩
    have HIj := Lib.hid (HIi.out.fine hsj GL.out); have HOJ := Lib.hid (hsj.row HOI.out (fun _ _ => id))
    clear hsj
    go_wp2_with fail
    refine (set_any (n := n) (y := ⟨1, 7, ⟨#[]⟩, 0⟩) (RA.out.keep HIj.out.same) (by have := LA.out; omega)).mono ?_
    rintro e wk ⟨hsk, so, sc, rfl, hrk, _⟩
    have HIk := Lib.hid (HIj.out.fine hsk GL.out); have HOK := Lib.hid (hsk.row HOJ.out (fun _ _ => id)); have HRK := Lib.hid hrk
    clear hsk hrk
    go_wp2_with fail
    refine (vals_self (A := setL L n ⟨1, 7, ⟨#[]⟩, 0⟩) (ReadV.own HOK.out) HRK.out (setL_ok OA.out) (by have := setL_len (L := L) (n := n) (y := ⟨1, 7, ⟨#[]⟩, 0⟩); have := LA.out; unfold maxLen; omega)).mono ?_
    rintro e wl ⟨rfl, hsl⟩
    have HIl := Lib.hid (HIk.out.fine hsl GL.out)
    clear hsl
    go_wp2_with fail
    go_ret
    exact ⟨rfl, same_to_below HIl.out.same⟩
  · skip
    have HI6 := Lib.hid ((HI5.out.blk hs6 (mat_of hmt) GL.out).fine ((Same.refl (fun _ => False) w6).alloc V.nil.obj) GL.out)
    have HB6 := Lib.hid (heap_alloc_new w6 V.nil.obj)
    have HF6 := Lib.hid (((Same.refl (fun _ => False) w6).alloc V.nil.obj).obj hf id)
    have HQ6 := Lib.hid (((Same.refl (fun _ => False) w6).alloc V.nil.obj).obj hq id)
    have HST := Lib.hid hst; have HM6 := Lib.hid (lt_of_block (tells_meter hmt (Same.refl _ w6)))
    clear hs6 hmt hst hf hq g0 hcell
    go_wp2_with fail
    generalize hw7 : w6.alloc (V.obj ⟨0, 0, ⟨#[]⟩, 0⟩) = w7 at *
    try rw [show w6.alloc (.cells #[.int .i64 0, .int .i64 0, .string ⟨#[]⟩, .float .f64 0] 38) = w7 from hw7]
    clear hw7
    refine (vals_self (RA.out.keep HI6.out.same) (ReadV.own HI6.out.was) OA.out NA.out).mono ?_
    rintro e w8 ⟨rfl, hs8⟩
    have HI8 := Lib.hid (HI6.out.fine hs8 GL.out); have HB8 := Lib.hid (hs8.obj HB6.out id)
    have HF8 := Lib.hid (hs8.obj HF6.out id)
    have HQ8 := Lib.hid (hs8.obj HQ6.out id)
    clear hs8
    go_wp2_with fail
    obtain ⟨hh8, hmt8⟩ := HI8.out.mt
    refine (told_mark hmt8 (by omega) HF8.out HQ8.out HI8.out.hg).mono ?_
    rintro e w9 ⟨rfl, hs9⟩
    have HI9 := Lib.hid (HI8.out.fine hs9 GL.out); have HB9 := Lib.hid (hs9.obj HB8.out id)
    obtain ⟨x0, x1, x2, x3⟩ := obj_cells HB9.out
    clear hs9 hmt8
    go_wp2_with fail
    refine (rsame_self V.nil nil_ok _).mono ?_
    rintro e w10 ⟨rfl, hs10⟩
    have HIa := Lib.hid (HI9.out.fine hs10 GL.out)
    clear hs10 x0 x1 x2 x3
    go_wp2_with fail
    obtain ⟨hha, hmta⟩ := HIa.out.mt
    refine (mset_any hmta (a0 % 2) how (by omega)).mono ?_
    rintro e wb ⟨rfl, hsb', hmb⟩
    have HIb := Lib.hid (HIa.out.set hsb' hmb GL.out); have HMb := Lib.hid hmb
    clear hsb' hmb hmta
    obtain ⟨j, hj⟩ : ∃ j : Nat, (k : Int) % 3 = (j : Int) := ⟨k % 3, by omega⟩
    have hj3 : j < 3 := by omega
    have hj3' : (j : Int) < 3 := by omega
    obtain ⟨gc, capc, bmc, bnc, e1, hcellc, hbmc, hbnc, ⟨csc, hgc⟩, hc3, hcmc⟩ := HIb.out.at_.co hj3
    cases e1
    unfold maxLen at hcmc
    obtain ⟨_, gg1, _⟩ := hooks_cells HIb.out.hk
    have HCO := Lib.hid (hcompare_play (wh := ⟨#[121]⟩) (n := (j : Int)) (mp := (.pointer (some ⟨w1.heap.size, 0, none⟩))) (c := 0) (a := a0 % 2) (s := 0) (RA.out.keep HIb.out.same) (RB.out.keep HIb.out.same) OA.out OB.out SA.out SB.out (by have := LA.out; omega) (by have := LB.out; omega) hbmc hbnc (Or.inr ⟨_, rfl, HMb.out⟩) ⟨by decide, by decide, by omega, by omega, by decide, by decide⟩)
    clear hbmc hbnc hgc hj3
    go_wp2_with fail
    refine HCO.out.mono ?_
    rintro e wc ⟨hsc, htc⟩
    obtain ⟨p2, q2, rfl, hf2, hq2, hmc⟩ := co_mark htc HST.out
    have HF2 := Lib.hid hf2; have HQ2 := Lib.hid hq2
    have HIc := Lib.hid (HIb.out.blk hsc (mat_of hmc) GL.out)
    clear hsc htc hmc hcellc gg1 hf2 hq2
    go_wp2_with fail
    obtain ⟨hhc, hmtc⟩ := HIc.out.mt
    refine (told_mark hmtc (by omega) HF2.out HQ2.out HIc.out.hg).mono ?_
    rintro e wd ⟨rfl, hsd⟩
    have HId := Lib.hid (HIc.out.fine hsd GL.out)
    clear hsd hmtc
    go_wp2_with fail
    obtain ⟨hhd, hmtd⟩ := HId.out.mt
    refine (mset_any hmtd (a0 % 2) how (by omega)).mono ?_
    rintro e we ⟨rfl, hse, hme⟩
    have HIe := Lib.hid (HId.out.set hse hme GL.out); have HMe := Lib.hid hme
    clear hse hme hmtd
    go_wp2_with fail
    refine (setter_any n ⟨1, 7, ⟨#[]⟩, 0⟩ _ _).mono ?_
    rintro e wf ⟨rfl, rfl⟩
    obtain ⟨hsw, hbn', hbv', hbm'⟩ := setW_at we n ⟨1, 7, ⟨#[]⟩, 0⟩ (.pointer (some ⟨w1.heap.size, 0, none⟩))
    have HIf := Lib.hid (HIe.out.fine hsw GL.out)
    have HMU := Lib.hid (hmutate_play (y := ⟨1, 7, ⟨#[]⟩, 0⟩) (mp := (.pointer (some ⟨w1.heap.size, 0, none⟩))) (c := 0) (a := a0 % 2) (s := 0) (RA.out.keep HIf.out.same) (by have := LA.out; omega) hbm' hbn' hbv' (Or.inr ⟨_, rfl, hsw.obj HMe.out id⟩) ⟨by decide, by decide, by omega, by omega, by decide, by decide⟩)
    clear hsw hbn' hbv' hbm'
    go_wp2_with fail
    refine HMU.out.mono ?_
    rintro e wh ⟨hsh, hth⟩
    obtain ⟨p3, q3, rfl, hf3, hq3, hmh⟩ := mt_mark hth HST.out
    have HF3 := Lib.hid hf3; have HQ3 := Lib.hid hq3
    have HIh := Lib.hid (HIf.out.blk hsh (mat_of hmh) GL.out)
    clear hsh hth hmh hf3 hq3
    go_wp2_with fail
    obtain ⟨hhh, hmth⟩ := HIh.out.mt
    refine (told_mark hmth (by omega) HF3.out HQ3.out HIh.out.hg).mono ?_
    rintro e wi ⟨rfl, hsi⟩
    have HIi := Lib.hid (HIh.out.fine hsi GL.out)
    clear hsi hmth
    go_wp2_with fail
    refine (vals_self (RA.out.keep HIi.out.same) (ReadV.own HIi.out.was) OA.out NA.out).mono ?_
    rintro e wj ⟨rfl, hsj⟩
    have HIj := Lib.hid (HIi.out.fine hsj GL.out)
    clear hsj
    go_wp2_with fail
    go_ret
    exact ⟨rfl, same_to_below HIj.out.same⟩

end Go.Proofs.YtcbapmkipcffgaaDoor
