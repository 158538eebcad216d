/-
  ordidx: what a search asks, where the comparator doesn't fail. Conditions: rows of few values. ordidx: search, where the comparator doesn't fail. Conditions: few entries; rows of few values.
-/
import Derived.Test.YtgfmemggfbgjeaaGreatDoorM27
import Derived.Test.YtgfmemggfbgjeaaGreatDoorM35
import Derived.Test.YtgfmemggfbgjeaaGreatDoorM29
namespace Go.Proofs.YtgfmemggfbgjeaaGreatDoor
open Go.RowKit Go.Extern.Stop Go.Stop Go.Extern Go.Lib
set_option maxRecDepth 1000000

/-- A key that can be read, and lies nowhere near the meter. -/
structure KeyOk (w : World) (mp : Value) (v : Value) (K : List V) : Prop where
  rd : ReadV w v K
  cap : CapOk v
  ok : ∀ z ∈ K, z.ok
  small : ∀ z ∈ K, z.s.size ≤ 200
  few : K.length ≤ 1000
  mt : ∀ k, v.ownBlock = some k → ¬ Blk mp k

theorem KeyOk.kept {w w' : World} {mp v : Value} {K : List V} {F : Nat → Prop} (h : KeyOk w mp v K) (hs : Same F w w') (hF : ∀ k, v.ownBlock = some k → ¬ F k) : KeyOk w' mp v K :=
  ⟨h.rd.kept hs hF, h.cap, h.ok, h.small, h.few, h.mt⟩

abbrev idxObj (t : Nat) (uq : Bool) (bm bn : Nat) : Obj := .cells #[.pointer (some ⟨t, 0, none⟩), .bool uq, coF bm bn] 87

theorem idx_cells {w : World} {x t bm bn : Nat} {uq : Bool} (h : w.heap[x]? = some (idxObj t uq bm bn)) : w.cell? ⟨x, 0, none⟩ = some (.pointer (some ⟨t, 0, none⟩)) ∧ w.cell? ⟨x, 1, none⟩ = some (.bool uq) ∧ w.cell? ⟨x, 2, none⟩ = some (coF bm bn) ∧ x < w.heap.size := by
  refine ⟨?_, ?_, ?_, lt_of_block h⟩ <;> simp [World.cell?, h]

/-- No call of the comparator fails. -/
def Calm (mp : Value) (a : Int) : Prop := mp = .pointer none ∨ a = 0

theorem Calm.no {mp : Value} {a c : Int} (h : Calm mp a) : ¬ Strikes mp c a := by
  rintro ⟨h1, h2, _⟩
  rcases h with h | h
  · exact h1 h
  · exact h2 h

/-- What a comparator ends with where it doesn't fail. -/
theorem cmp_calm {w : World} {x y mp : Value} {A B : List V} {n c a h s : Int} {bm bn : Nat} (hx : KeyOk w mp x A) (hy : KeyOk w mp y B) (hbm : One w bm mp 49) (hbn : One w bn (.int .i64 n) 3) (hm : MAt w mp c a h s) (hsm : MSmall a) (hc : Calm mp a) :
    Calls Tryz.prog 55 #[x, y, .pointer (some ⟨bm, 0, none⟩), .pointer (some ⟨bn, 0, none⟩)] w fun e w' => e = .returned (.tuple #[.int .i64 (7 * cmpR n A B), .nilIface]) ∧ Same (Blk mp) w w' ∧ MAt w' mp (IntKind.i64.wrap (c + 1)) a h s := by
  refine (cmpr_any hx.rd hy.rd hx.cap hy.cap hx.mt hy.mt hx.ok hy.ok hx.small hy.small hx.few hy.few hbm hbn hm hsm).mono ?_
  rintro e w' ⟨hs, hend⟩
  rcases hend with ⟨_, rfl, hm'⟩ | ⟨hst, _⟩
  · exact ⟨rfl, hs, hm'⟩
  · exact absurd hst hc.no

/-- The question that a search hands over, decided. -/
def SoIs (mp : Value) (g : Nat) (cap : Array Value) (d : Int → Int → Bool) (w : World) : Prop :=
  ∀ (w' : World) (c i : Int), Same (Blk mp) w w' → -7 ≤ c → c ≤ 7 → Calls Tryz.prog g (#[.int .i64 c, .int .i64 i] ++ cap) w' fun r w'' => r = .returned (.bool (d c i)) ∧ Same (fun _ => False) w' w''

/-- What stands behind a question that a search asks. -/
structure AskIn (w : World) (pb px pk ps x t bm bn g : Nat) (uq : Bool) (cap : Array Value) (v mp : Value) (K : List V) (d : Int → Int → Bool) (n a : Int) : Prop where
  hb : One w pb .nilIface 41
  hx : One w px (.pointer (some ⟨x, 0, none⟩)) 24
  hk : One w pk v 34
  hs : One w ps (.func (.func g) #[] cap) 101
  idx : w.heap[x]? = some (idxObj t uq bm bn)
  bm : One w bm mp 49
  bn : One w bn (.int .i64 n) 3
  key : KeyOk w mp v K
  so : SoIs mp g cap d w
  eg : ∀ args w, (callFunc g args).run Tryz.prog w = .ok (.enter g args) w
  sm : MSmall a
  calm : Calm mp a

theorem AskIn.kept {w w' : World} {pb px pk ps x t bm bn g : Nat} {uq : Bool} {cap : Array Value} {v mp : Value} {K : List V} {d : Int → Int → Bool} {n a c h s : Int} (hA : AskIn w pb px pk ps x t bm bn g uq cap v mp K d n a) (hm : MAt w mp c a h s) (hs : Same (Blk mp) w w') : AskIn w' pb px pk ps x t bm bn g uq cap v mp K d n a := by
  have hi : ¬ Blk mp x := by
    rcases hm with rfl | ⟨m, rfl, hm⟩
    · intro h; cases h
    · intro h
      have e : m = x := by simpa [Blk] using h
      subst e
      have := hA.idx.symm.trans hm
      simp at this
  exact ⟨hs.one hA.hb (hm.ne_one hA.hb), hs.one hA.hx (hm.ne_one hA.hx), hs.one hA.hk (hm.ne_one hA.hk), hs.one hA.hs (hm.ne_one hA.hs), hs.obj hA.idx hi, hs.one hA.bm (hm.ne_one hA.bm), hs.one hA.bn (hm.ne_one hA.bn), hA.key.kept hs hA.key.mt, fun w2 c i h2 => hA.so w2 c i (hs.trans h2 (fun _ _ h => h)), hA.eg, hA.sm, hA.calm⟩

set_option maxHeartbeats 8000000 in
theorem ask_calm {w0 : World} {pb px pk ps x t bm bn g : Nat} {uq : Bool} {cap : Array Value} {v mp : Value} {K : List V} {d : Int → Int → Bool} {n a c h s : Int} {e : En} (hA0 : AskIn w0 pb px pk ps x t bm bn g uq cap v mp K d n a) (hm0 : MAt w0 mp c a h s) (he0 : KeyOk w0 mp e.key e.kv) :
    Calls Tryz.prog 66 #[e.agg, .pointer (some ⟨pb, 0, none⟩), .pointer (some ⟨px, 0, none⟩), .pointer (some ⟨pk, 0, none⟩), .pointer (some ⟨ps, 0, none⟩)] w0 fun r w' => r = .returned (.bool (d (7 * cmpR n e.kv K) e.id)) ∧ Same (Blk mp) w0 w' ∧ MAt w' mp (IntKind.i64.wrap (c + 1)) a h s := by
  obtain ⟨w, hw⟩ : ∃ w, w = w0.alloc (entObj e) := ⟨_, rfl⟩
  have hsb : Same (fun _ => False) w0 w := by rw [hw]; exact (Same.refl _ w0).alloc _
  have hsb' : Same (Blk mp) w0 w := hsb.weaken (fun _ _ h => h.elim)
  have hA := hA0.kept hm0 hsb'
  have hm : MAt w mp c a h s := hm0.same hsb (fun _ _ => id)
  have he : KeyOk w mp e.key e.kv := he0.kept hsb (fun _ _ => id)
  have heb : w.heap[w0.heap.size]? = some (entObj e) := by rw [hw]; exact heap_alloc_new _ _
  obtain ⟨e0, e1, _, _⟩ := ent_cells heb
  have hel := lt_of_block heb
  have b0 := hA.hb.cell; have b1 := hA.hx.cell; have b2 := hA.hk.cell; have b3 := hA.hs.cell
  obtain ⟨i0, i1, i2, il⟩ := idx_cells hA.idx
  have l0 := lt_of_block hA.hb; have l1 := lt_of_block hA.hx; have l2 := lt_of_block hA.hk; have l3 := lt_of_block hA.hs
  have hdr : Same (fun _ => False) w w.drew := (Same.refl (fun _ => False) w).drew
  have HC := Lib.hid (cmp_calm (he.kept hdr (fun _ _ => id)) (hA.key.kept hdr (fun _ _ => id)) (hdr.one hA.bm id) (hdr.one hA.bn id) (hm.same hdr (fun _ _ => id)) hA.sm hA.calm)
  have HN := Lib.hid (fun (W : World) (h1 : Same (Blk mp) w W) => And.intro (h1.one hA.hs (hm.ne_one hA.hs)) (h1.obj heb (fun hb => by have := hm0.lt hb; omega)))
  have HSO := Lib.hid (fun (W : World) (h1 : Same (Blk mp) w W) => hA.so W (7 * cmpR n e.kv K) e.id h1 (by have := cmpR_range n e.kv K; omega) (by have := cmpR_range n e.kv K; omega))
  have eg := hA.eg
  have eg1 := cmpr_enter
  have HW := Lib.hid hw; have HSB := Lib.hid hsb'
  clear hA0 hm0 he0 hw hsb hsb' hA hm he heb hdr
  generalize 7 * cmpR n e.kv K = q at *
  go_enter Tryz.func66, Tryz.ntmps66
  go_upto_region 1 with fail
  rw [← HW.out]
  go_wp2_with fail
  go_region_with (first | (go_at_call 55; refine HC.out.mono ?_; rintro r w1 ⟨rfl, hs1, hm1⟩; have hs1' : Same (Blk mp) w w1 := ((Same.refl (Blk mp) w).drew).trans hs1 (fun _ _ h => h); obtain ⟨j1, j2⟩ := HN.out w1 hs1'; have d3 := j1.cell; have dl := lt_of_block j1; obtain ⟨d4, d5, _, _⟩ := ent_cells j2; have del := lt_of_block j2; have HM1 := Lib.hid hm1; have HS1 := Lib.hid hs1'; have HSO1 := Lib.hid (HSO.out w1 hs1'); clear hs1 hm1 hs1' j1 j2))
  all_goals go_wp2_with fail
  all_goals (
    refine HSO1.out.mono ?_
    rintro r w2 ⟨rfl, hs2⟩
    have HS2 := Lib.hid ((HSB.out.trans HS1.out (fun _ _ h => h)).trans hs2 (fun _ _ h => h.elim)); have HM2 := Lib.hid (HM1.out.same hs2 (fun _ _ => id))
    clear hs2
    go_wp2_with fail
    go_ret
    exact ⟨rfl, HS2.out, HM2.out⟩)

end Go.Proofs.YtgfmemggfbgjeaaGreatDoor

namespace Go.Proofs.YtgfmemggfbgjeaaGreatDoor
open Go.RowKit Go.Extern.Stop Go.Stop Go.Extern Go.Lib
set_option maxRecDepth 1000000

theorem told_nil (w : World) : Calls Tryz.prog 67 #[.nilIface] w fun e w' => e = .returned .nilIface ∧ Same (fun _ => False) w w' := by
  have hs : Same (fun _ => False) w (w.alloc (.cells #[.pointer none] 135)) := (Same.refl _ w).alloc _
  have HA := Lib.hid (fun t => as_nil t (w.alloc (.cells #[.pointer none] 135)))
  have HS := Lib.hid hs
  clear hs
  go_enter Tryz.func67, Tryz.ntmps67
  go_wp2_with fail
  refine (HA.out _).mono ?_
  rintro e w1 ⟨rfl, rfl⟩
  go_wp2_with fail
  go_ret
  exact ⟨rfl, HS.out⟩

/-- An ordered index in memory. -/
structure OxAt (w : World) (P : Nat → Prop) (x t bm bn : Nat) (uq : Bool) (mp : Value) (n a : Int) (L : List En) (c : Int) : Prop where
  idx : w.heap[x]? = some (idxObj t uq bm bn)
  tree : TreeIs w P t L c
  bm : One w bm mp 49
  bn : One w bn (.int .i64 n) 3
  keys : ∀ e ∈ L, KeyOk w mp e.key e.kv
  sm : MSmall a
  calm : Calm mp a
  pm : ∀ k, Blk mp k → ¬ P k
  kt : ∀ e ∈ L, e.key.ownBlock ≠ some t

theorem blk_idx {w : World} {mp : Value} {c a h s : Int} {x t bm bn : Nat} {uq : Bool} (hm : MAt w mp c a h s) (hi : w.heap[x]? = some (idxObj t uq bm bn)) : ¬ Blk mp x := by
  rcases hm with rfl | ⟨m, rfl, hm⟩
  · intro h; cases h
  · intro h
    have e : m = x := by simpa [Blk] using h
    subst e
    have := hi.symm.trans hm
    simp at this

theorem OxAt.kept {w w' : World} {P : Nat → Prop} {x t bm bn : Nat} {uq : Bool} {mp : Value} {n a c cc h s : Int} {L : List En} (hO : OxAt w P x t bm bn uq mp n a L c) (hm : MAt w mp cc a h s) (hs : Same (Blk mp) w w') : OxAt w' P x t bm bn uq mp n a L c :=
  ⟨hs.obj hO.idx (blk_idx hm hO.idx), hO.tree.keep hs hO.pm, hs.one hO.bm (hm.ne_one hO.bm), hs.one hO.bn (hm.ne_one hO.bn), fun e he => (hO.keys e he).kept hs (hO.keys e he).mt, hO.sm, hO.calm, hO.pm, hO.kt⟩

/-- What an entry answers. -/
abbrev soOf (d : Int → Int → Bool) (n : Int) (K : List V) (e : En) : Bool := d (7 * cmpR n e.kv K) e.id

/-- What search answers. -/
def SearchEnd (w : World) (mp : Value) (a h s : Int) (L : List En) (so : En → Bool) (r : Ending) (w' : World) : Prop :=
  ∃ (i : Nat) (c' : Int), r = .returned (.tuple #[.int .i64 i, .nilIface]) ∧ i ≤ L.length ∧ (∀ y ∈ L.take i, so y = false) ∧ (∀ y ∈ L.drop i, so y = true) ∧ Same (Blk mp) w w' ∧ MAt w' mp c' a h s

set_option maxHeartbeats 8000000 in
theorem search_calm {w : World} {P : Nat → Prop} {x t bm bn g : Nat} {uq : Bool} {cap : Array Value} {v mp : Value} {K : List V} {L : List En} {d : Int → Int → Bool} {n a c cc h s : Int} (hO : OxAt w P x t bm bn uq mp n a L c) (hm : MAt w mp cc a h s) (hK : KeyOk w mp v K) (hso : SoIs mp g cap d w) (eg : ∀ args w, (callFunc g args).run Tryz.prog w = .ok (.enter g args) w)
    (hL : L.length ≤ 90000) (hmono : L.Pairwise (fun x y => soOf d n K x = true → soOf d n K y = true)) :
    Calls Tryz.prog 39 #[.pointer (some ⟨x, 0, none⟩), v, .func (.func g) #[] cap] w fun r w' => SearchEnd w mp a h s L (soOf d n K) r w' := by
  obtain ⟨vo, vc, rfl⟩ := readV_len hK.rd
  obtain ⟨w4, hw4⟩ : ∃ w4, w4 = (((w.alloc (.cells #[.pointer (some ⟨x, 0, none⟩)] 24)).alloc (.cells #[.slice vo K.length vc] 34)).alloc (.cells #[.func (.func g) #[] cap] 101)).alloc (.cells #[.nilIface] 41) := ⟨_, rfl⟩
  have hs4 : Same (fun _ => False) w w4 := by rw [hw4]; exact ((((Same.refl _ w).alloc _).alloc _).alloc _).alloc _
  have hs4' : Same (Blk mp) w w4 := hs4.weaken (fun _ _ h => h.elim)
  have o1 : One w4 w.heap.size (.pointer (some ⟨x, 0, none⟩)) 24 := by rw [hw4]; exact (((One.new _ _ _).alloc _).alloc _).alloc _
  have o2 : One w4 (w.heap.size + 1) (.slice vo K.length vc) 34 := by
    rw [hw4]
    have := ((One.new (w.alloc (.cells #[.pointer (some ⟨x, 0, none⟩)] 24)) (.slice vo K.length vc) 34).alloc (.cells #[.func (.func g) #[] cap] 101)).alloc (.cells #[.nilIface] 41)
    simpa using this
  have o3 : One w4 (w.heap.size + 1 + 1) (.func (.func g) #[] cap) 101 := by
    rw [hw4]
    have := (One.new ((w.alloc (.cells #[.pointer (some ⟨x, 0, none⟩)] 24)).alloc (.cells #[.slice vo K.length vc] 34)) (.func (.func g) #[] cap) 101).alloc (.cells #[.nilIface] 41)
    simpa using this
  have o4 : One w4 (w.heap.size + 1 + 1 + 1) .nilIface 41 := by
    rw [hw4]
    have := One.new (((w.alloc (.cells #[.pointer (some ⟨x, 0, none⟩)] 24)).alloc (.cells #[.slice vo K.length vc] 34)).alloc (.cells #[.func (.func g) #[] cap] 101)) .nilIface 41
    simpa using this
  have hO4 := hO.kept hm hs4'
  have hm4 : MAt w4 mp cc a h s := hm.same hs4 (fun _ _ => id)
  have hA4 : AskIn w4 (w.heap.size + 1 + 1 + 1) w.heap.size (w.heap.size + 1) (w.heap.size + 1 + 1) x t bm bn g uq cap (.slice vo K.length vc) mp K d n a :=
    ⟨o4, o1, o2, o3, hO4.idx, hO4.bm, hO4.bn, hK.kept hs4 (fun _ _ => id), fun w2 c i h2 => hso w2 c i (hs4'.trans h2 (fun _ _ h => h)), eg, hO.sm, hO.calm⟩
  have hask : Asks w4.heap.size w4 P (w.heap.size + 1 + 1 + 1) w.heap.size (w.heap.size + 1) (w.heap.size + 1 + 1) L (soOf d n K) (fun _ st W => st = false ∧ Same (Blk mp) w4 W ∧ ∃ c', MAt W mp c' a h s) := by
    refine ⟨fun h1 h2 => ?_, fun h _ => h, fun h => h.2.1.weaken (fun k _ hk => hO4.pm k hk), rfl, fun {m st W e} hG ham hmW he => ?_⟩
    · obtain ⟨e1, e2, c', e3⟩ := h1
      refine ⟨e1, e2.trans h2 (fun i hi hz => by have := hz.1; omega), c', e3.same h2 (fun k hk hz => ?_)⟩
      have := hm4.lt hk
      have := hz.1
      omega
    · obtain ⟨e1, e2, c', e3⟩ := hG
      subst e1
      refine (ask_calm (hA4.kept hm4 e2) e3 ((hO4.keys e he).kept e2 (hO4.keys e he).mt)).mono ?_
      rintro r w' ⟨rfl, hs', hm'⟩
      exact ⟨_, false, rfl, ⟨rfl, e2.trans hs' (fun _ _ h => h), _, hm'⟩, fun _ => ⟨rfl, rfl⟩, hs'.weaken (fun k _ hk hz => by have := hm4.lt hk; have := hz.1; omega)⟩
  have HS := Lib.hid (tree_search hask ⟨rfl, Same.refl _ _, cc, hm4⟩ hO4.tree hL hmono)
  have HB := Lib.hid (fun (W : World) (h1 : Same (Blk mp) w4 W) => h1.one o4 (hm4.ne_one o4))
  obtain ⟨i0, i1, i2, il⟩ := idx_cells hO4.idx
  have b1 := o1.cell
  have l1 := lt_of_block o1
  have HW := Lib.hid hw4; have HS4 := Lib.hid hs4'
  clear hask hA4 hm4 hO4 o1 o2 o3 o4 hs4 hs4' hw4 hO hm hK hso hmono
  go_enter Tryz.func39, Tryz.ntmps39
  go_upto_region 2 with fail
  rw [← HW.out]
  go_wp2_with fail
  refine HS.out.mono ?_
  rintro r w5 ⟨i, m, st, rfl, hi, ⟨rfl, hs5, c', hm5⟩, _, _, hp⟩
  obtain ⟨f1, f2⟩ := hp rfl
  have hb5 := HB.out w5 hs5
  have b5 := hb5.cell
  have l5 := lt_of_block hb5
  have HT := Lib.hid (told_nil w5)
  have HS5 := Lib.hid (HS4.out.trans hs5 (fun _ _ h => h)); have HM5 := Lib.hid hm5; have HF1 := Lib.hid f1; have HF2 := Lib.hid f2
  clear hs5 hm5 f1 f2 hp hb5
  go_wp2_with fail
  refine HT.out.mono ?_
  rintro e w6 ⟨rfl, hs6⟩
  have HS6 := Lib.hid (HS5.out.trans hs6 (fun _ _ h => h.elim)); have HM6 := Lib.hid (HM5.out.same hs6 (fun _ _ => id))
  clear hs6
  go_wp2_with fail
  go_ret2
  exact ⟨i, c', rfl, hi, HF1.out, HF2.out, HS6.out, HM6.out⟩

end Go.Proofs.YtgfmemggfbgjeaaGreatDoor
