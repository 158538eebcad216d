/-
  rialtoplay's extractors: what a call of one does. Conditions: few values, short texts, small counts.
-/
import Derived.Test.YtcbapmkipcffgaaDoorRef7X
import Derived.Test.YtcbapmkipcffgaaDoorMeter
namespace Go.Proofs.YtcbapmkipcffgaaDoor
open Go.RowKit Go.Extern.Stop Go.Stop Go.Extern Go.Lib
set_option maxRecDepth 1000000

/-- A meter, or none. -/
def MAt (w : World) (mp : Value) (c a h s : Int) : Prop := mp = .pointer none ∨ ∃ m, mp = .pointer (some ⟨m, 0, none⟩) ∧ w.heap[m]? = some (meterObj c a h s)

/-- It strikes at the next call. -/
def Strikes (mp : Value) (c a : Int) : Prop := mp ≠ .pointer none ∧ a ≠ 0 ∧ c + 1 = a

/-- The meter's block. -/
def Blk (mp : Value) (k : Nat) : Prop := mp = .pointer (some ⟨k, 0, none⟩)

theorem MAt.same {w w' : World} {mp : Value} {c a h s : Int} {F : Nat → Prop} (hm : MAt w mp c a h s) (hs : Same F w w') (hF : ∀ k, Blk mp k → ¬ F k) : MAt w' mp c a h s := by
  rcases hm with rfl | ⟨m, rfl, hm⟩
  · exact Or.inl rfl
  · exact Or.inr ⟨m, rfl, hs.obj hm (hF m rfl)⟩

theorem MAt.lt {w : World} {mp : Value} {c a h s : Int} (hm : MAt w mp c a h s) {k : Nat} (hk : Blk mp k) : k < w.heap.size := by
  rcases hm with rfl | ⟨m, rfl, hm⟩
  · cases hk
  · cases hk
    exact lt_of_block hm

/-- The meter's block is no block of one cell. -/
theorem MAt.ne_one {w : World} {mp : Value} {c a h s : Int} (hm : MAt w mp c a h s) {b : Nat} {v : Value} {t : TypeId} (hb : One w b v t) : ¬ Blk mp b := by
  rcases hm with rfl | ⟨m, rfl, hm⟩
  · intro h; cases h
  · intro h
    cases h
    have := hb.symm.trans hm
    simp at this

theorem MAt.ne_own {w : World} {mp : Value} {c a h s : Int} (hm : MAt w mp c a h s) {B n : Nat} {x : Value} {xs : List Value} (ho : w.ownsRow B 38 4 x n xs) {k : Nat} (hk : Blk mp k) : x.ownBlock ≠ some k := by
  rcases hm with rfl | ⟨m, rfl, hm⟩
  · cases hk
  · cases hk
    intro e
    rcases ho.2 with ⟨rfl, _⟩ | ⟨g, cap, cur, rfl, _, hh, _⟩
    · cases e
    · simp only [Value.ownBlock, Option.some.injEq] at e
      subst e
      have := hh.symm.trans hm
      simp at this

abbrev markI (p : Nat) : Value := .iface 41 (.pointer (some ⟨p, 0, none⟩))

/-- What a call of a meter, or none, ends with. -/
def TickAt (w : World) (mp : Value) (c a h s : Int) (e : Ending) (w' : World) : Prop :=
  Same (Blk mp) w w' ∧ ((¬ Strikes mp c a ∧ e = .returned .nilIface ∧ MAt w' mp (c + 1) a h s) ∨
    (Strikes mp c a ∧ ∃ p, w.heap.size ≤ p ∧ e = .returned (markI p) ∧ MAt w' mp (c + 1) a h (s + 1) ∧ w'.heap[p]? = some (markObj (1000 + a))))

structure MSmall (c a s : Int) : Prop where
  c0 : 0 ≤ c
  c1 : c ≤ 1000000
  a0 : -1000 ≤ a
  a1 : a ≤ 1000
  s0 : 0 ≤ s
  s1 : s ≤ 1000000

theorem tick_mp {w : World} {mp : Value} {c a h s : Int} (hm : MAt w mp c a h s) (hs : MSmall c a s) :
    Calls Tryd.prog 81 #[mp] w fun e w' => TickAt w mp c a h s e w' := by
  rcases hm with rfl | ⟨m, rfl, hm⟩
  · refine (tick_nil w).mono fun e w' ⟨q1, q2⟩ => ?_
    subst q2
    exact ⟨Same.refl _ _, Or.inl ⟨fun h => h.1 rfl, q1, Or.inl rfl⟩⟩
  · refine (tick_any hm hs.c0 hs.c1 hs.a0 hs.a1 hs.s0 hs.s1).mono fun e w' ⟨q1, q2⟩ => ⟨q1.weaken (fun k _ h => by subst h; rfl), ?_⟩
    rcases q2 with ⟨q2, q3, q4⟩ | ⟨q2, q3, p, q4, q5, q6, q7⟩
    · exact Or.inl ⟨fun h => q2 h.2, q3, Or.inr ⟨m, rfl, q4⟩⟩
    · exact Or.inr ⟨⟨by simp, q2, q3⟩, p, q4, q5, Or.inr ⟨m, rfl, q6⟩, q7⟩

/-- What an extractor ends with. -/
def ExtEnd (n : Int) (L : List V) (w : World) (mp : Value) (c a h s : Int) (e : Ending) (w' : World) : Prop :=
  (¬ Strikes mp c a ∧ e = .returned (.tuple #[(exV n L).val, .nilIface]) ∧ MAt w' mp (c + 1) a h s) ∨
  (Strikes mp c a ∧ ∃ p, w.heap.size ≤ p ∧ e = .returned (.tuple #[V.nil.val, markI p]) ∧ MAt w' mp (c + 1) a h (s + 1) ∧ w'.heap[p]? = some (markObj (1000 + a)))

set_option maxHeartbeats 8000000 in
theorem extr_any {w : World} {x mp : Value} {L : List V} {n c a h s : Int} {B bm bn : Nat} (hx : w.ownsRow B 38 4 x L.length (vals L)) (hok : ∀ y ∈ L, y.ok) (hsz : ∀ y ∈ L, y.s.size ≤ 200) (hn : L.length ≤ 1000)
    (hbm : One w bm mp 70) (hbn : One w bn (.int .i64 n) 3) (hm : MAt w mp c a h s) (hsm : MSmall c a s) :
    Calls Tryd.prog 88 #[x, .pointer (some ⟨bm, 0, none⟩), .pointer (some ⟨bn, 0, none⟩)] w fun e w' => Same (fun k => Blk mp k ∨ x.ownBlock = some k) w w' ∧ ExtEnd n L w mp c a h s e w' := by
  obtain ⟨xo, xc, rfl⟩ := readV_len (ReadV.own hx)
  have hal := (Same.refl (fun _ => False) w).alloc V.nil.obj
  have hr0 := heap_alloc_new w V.nil.obj
  have c0 := (hal.one hbm id).cell
  have HT := Lib.hid (tick_mp (hm.same hal (fun _ _ => id)) hsm); have HM := Lib.hid hm; have HX := Lib.hid hx; have HAL := Lib.hid hal; have HR0 := Lib.hid hr0; have HBN := Lib.hid hbn; have HOK := Lib.hid hok; have HSZ := Lib.hid hsz; have HBM := Lib.hid hbm
  have hszw : (w.alloc V.nil.obj).heap.size = w.heap.size + 1 := by simp
  have HSW := Lib.hid hszw
  clear hx hal hr0 hm hbn hbm hok hsz hszw
  go_enter Tryd.func88, Tryd.ntmps88
  go_wp2_with fail
  refine HT.out.mono ?_
  rintro e w1 ⟨hs1, hend⟩
  clear c0
  have hw1 : Same (Blk mp) w w1 := (HAL.out.weaken (fun _ _ h => h.elim)).trans hs1 (fun _ _ h => h)
  have hr1 : w1.heap[w.heap.size]? = some V.nil.obj := hs1.obj HR0.out (fun h => by have := HM.out.lt h; omega)
  obtain ⟨r0, r1, r2, r3⟩ := obj_cells hr1
  have rf := vobj_free hr1
  have rl := lt_of_block hr1
  rcases hend with ⟨hst, rfl, hm1⟩ | ⟨hst, p, hp, rfl, hm1, hpo⟩
  · have hx1 := hw1.row HX.out (fun k hk hB => HM.out.ne_own HX.out hB hk)
    have hn1 : One w1 bn (.int .i64 n) 3 := hw1.one HBN.out (HM.out.ne_one HBN.out)
    have cn := hn1.cell
    have HE := Lib.hid (ref7ex_any n (ReadV.own hx1) HOK.out HSZ.out hn)
    have HX1 := Lib.hid hx1; have HW1 := Lib.hid hw1; have HR1 := Lib.hid hr1; have HM1 := Lib.hid hm1; have HST := Lib.hid hst
    clear hx1 hw1 hr1 hm1 hs1 hn1 hst r0 r1 r2 r3 rf
    go_wp2_with fail
    refine HE.out.mono ?_
    rintro e w2 ⟨rfl, hs2⟩
    clear cn
    have hal2 := hs2.alloc (exV n L).obj
    have hr2 : (w2.alloc (exV n L).obj).heap[w.heap.size]? = some V.nil.obj := hal2.obj HR1.out id
    have hv2 := heap_alloc_new w2 (exV n L).obj
    have hx2 := hal2.row HX1.out (fun _ _ => id)
    have hm2 : MAt (w2.alloc (exV n L).obj) mp (c + 1) a h s := HM1.out.same hal2 (fun _ _ => id)
    have hw2 : Same (fun k => Blk mp k ∨ (Value.slice xo L.length xc).ownBlock = some k) w (w2.alloc (exV n L).obj) := (HW1.out.weaken (fun _ _ h => Or.inl h)).trans hal2 (fun _ _ h => h.elim)
    have hle := hs2.size
    have HR2 := Lib.hid hr2; have HV2 := Lib.hid hv2; have HX2 := Lib.hid hx2; have HM2 := Lib.hid hm2; have HW2 := Lib.hid hw2
    clear hal2 hr2 hv2 hx2 hm2 hw2 hs2 HE HX1 HW1 HR1 HM1
    go_wp2_with fail
    generalize hw3 : w2.alloc (exV n L).obj = w3 at *
    have hl3 : w2.heap.size < w3.heap.size := by rw [← hw3]; simp
    clear hw3
    obtain ⟨rv, hrv⟩ : ∃ rv, rv = exV n L := ⟨_, rfl⟩
    rw [← hrv] at HV2
    rcases HX2.out.2 with ⟨hnil, hL0⟩ | ⟨g, cap, cur, hxe, hBg, hg, hnc, hcm, hcs, _⟩
    · simp only [Value.slice.injEq] at hnil
      obtain ⟨rfl, _, rfl⟩ := hnil
      rw [hL0]
      refine wp_loop_rounds 1 ?_
      rw [rounds_succ]
      obtain ⟨r0, r1, r2, r3⟩ := obj_cells HR2.out
      have rf := vobj_free HR2.out
      obtain ⟨v0, v1, v2, v3⟩ := obj_cells HV2.out
      have hd := vset4_obj HR2.out rv
      have hsd : Same (fun k => Blk mp k ∨ (Value.slice none 0 0).ownBlock = some k) w (vset4 w3 w.heap.size rv) := vset4_same (by have := HW2.out; rw [hL0] at this; exact this) (fun hh => by omega) rv
      have hmd : MAt (vset4 w3 w.heap.size rv) mp (c + 1) a h s := HM2.out.same (vset4_same (Same.refl (fun k => k = w.heap.size) w3) (fun _ => rfl) rv) (fun k hk e => by subst e; have := HM.out.lt hk; omega)
      have HD := Lib.hid hd; have HSD := Lib.hid hsd; have HMD := Lib.hid hmd; have HRV := Lib.hid hrv
      clear hd hsd hmd hrv
      go_wp2_with fail
      exact vret (x := rv) (v := .nilIface) rfl rfl HD.out rfl rfl ⟨HSD.out, Or.inl ⟨HST.out, by rw [HRV.out], HMD.out⟩⟩
    · simp only [Value.slice.injEq] at hxe
      obtain ⟨rfl, _, rfl⟩ := hxe
      have hgw : g < w.heap.size := (HX.out.lt g rfl).2
      have hgm : ¬ Blk mp g := fun hb => HM.out.ne_own HX.out hb rfl
      have HG := Lib.hid hg; have HRV := Lib.hid hrv
      clear hg hrv
      unfold maxLen at hcm
      go_loopg [8] L.length (fun r i wr => ∃ (j : Nat) (cs : Array Value), j + r = L.length ∧ i = .int .i64 j ∧ wr.heap[g]? = some (.cells cs 38 (0, 0)) ∧ cs.size = xc * 4 ∧ Same (fun k => k = g) w3 wr)
      case atStart => exact ⟨0, cur, by omega, rfl, HG.out, hcs, Same.refl _ _⟩
      case round =>
        obtain ⟨j, cs, hj, rfl, hgr, hsz, hs⟩ := hrel
        by_cases hlt : j < L.length
        · obtain ⟨r, rfl⟩ : ∃ r, gk = r + 1 := ⟨gk - 1, by omega⟩
          obtain ⟨q0, k0⟩ : ∃ q, wr.cell? ⟨g, j * 4, none⟩ = some q := ⟨cs[j * 4]'(by omega), by simp [World.cell?, hgr, show j * 4 < cs.size by omega]⟩
          obtain ⟨q1, k1⟩ : ∃ q, wr.cell? ⟨g, j * 4 + 1, none⟩ = some q := ⟨cs[j * 4 + 1]'(by omega), by simp [World.cell?, hgr, show j * 4 + 1 < cs.size by omega]⟩
          obtain ⟨q2, k2⟩ : ∃ q, wr.cell? ⟨g, j * 4 + 2, none⟩ = some q := ⟨cs[j * 4 + 2]'(by omega), by simp [World.cell?, hgr, show j * 4 + 2 < cs.size by omega]⟩
          obtain ⟨q3, k3⟩ : ∃ q, wr.cell? ⟨g, j * 4 + 3, none⟩ = some q := ⟨cs[j * 4 + 3]'(by omega), by simp [World.cell?, hgr, show j * 4 + 3 < cs.size by omega]⟩
          have fr : ∀ o, wr.frozen? ⟨g, o, none⟩ = false := fun o => by simp [World.frozen?, hgr]
          have hlt' : (j : Int) < (L.length : Int) := by omega
          have HGR := Lib.hid hgr; have HS := Lib.hid hs; have HJ := Lib.hid hj
          clear hgr hs hj
          go_wp2_with fail
          go_roundg r
          case measure => omega
          case rel =>
            exact ⟨j + 1, _, by have := HJ.out; omega, by go_num, vset_at (vset_at (vset_at (vset_at HGR.out))), by simp [hsz],
              (((HS.out.setCell (p := ⟨g, j * 4, none⟩) (fun _ => rfl) _).setCell (p := ⟨g, j * 4 + 1, none⟩) (fun _ => rfl) _).setCell (p := ⟨g, j * 4 + 2, none⟩) (fun _ => rfl) _).setCell (p := ⟨g, j * 4 + 3, none⟩) (fun _ => rfl) _⟩
        · obtain rfl : j = L.length := by omega
          have hr3 : wr.heap[w.heap.size]? = some V.nil.obj := hs.obj HR2.out (by omega)
          have hv3 : wr.heap[w2.heap.size]? = some rv.obj := hs.obj HV2.out (by omega)
          obtain ⟨r0, r1, r2, r3⟩ := obj_cells hr3
          have rf := vobj_free hr3
          have rl3 := lt_of_block hr3
          obtain ⟨v0, v1, v2, v3⟩ := obj_cells hv3
          have hd := vset4_obj hr3 rv
          have hsd : Same (fun k => Blk mp k ∨ (Value.slice (some ⟨g, 0, none⟩) L.length xc).ownBlock = some k) w (vset4 wr w.heap.size rv) := vset4_same (HW2.out.trans hs (fun k _ e => Or.inr (by rw [e]; rfl))) (fun hh => by omega) rv
          have hmd : MAt (vset4 wr w.heap.size rv) mp (c + 1) a h s := (HM2.out.same hs (fun k hk e => hgm (e ▸ hk))).same (vset4_same (Same.refl (fun k => k = w.heap.size) wr) (fun _ => rfl) rv) (fun k hk e => by subst e; have := HM.out.lt hk; omega)
          have HD := Lib.hid hd; have HSD := Lib.hid hsd; have HMD := Lib.hid hmd
          clear hd hsd hmd hr3 hv3 hgr hs hj hlt
          go_wp2_with fail
          exact vret (x := rv) (v := .nilIface) rfl rfl HD.out rfl rfl ⟨HSD.out, Or.inl ⟨HST.out, by rw [HRV.out], HMD.out⟩⟩
  · have hpn : p ≠ w.heap.size := by have := HSW.out; omega
    have hd := vset4_obj hr1 V.nil
    have hsd : Same (fun k => Blk mp k ∨ (Value.slice xo L.length xc).ownBlock = some k) w (vset4 w1 w.heap.size V.nil) := vset4_same (hw1.weaken (fun _ _ h => Or.inl h)) (fun hh => by omega) V.nil
    have hmd : MAt (vset4 w1 w.heap.size V.nil) mp (c + 1) a h (s + 1) := hm1.same (vset4_same (Same.refl (fun k => k = w.heap.size) w1) (fun _ => rfl) V.nil) (fun k hk e => by subst e; have := HM.out.lt hk; omega)
    have hpd : (vset4 w1 w.heap.size V.nil).heap[p]? = some (markObj (1000 + a)) := (vset4_same (Same.refl (fun k => k = w.heap.size) w1) (fun _ => rfl) V.nil).obj hpo hpn
    have HD := Lib.hid hd; have HSD := Lib.hid hsd; have HMD := Lib.hid hmd; have HPD := Lib.hid hpd; have HST := Lib.hid hst; have HP := Lib.hid (show w.heap.size ≤ p by have := HSW.out; omega)
    clear hd hsd hmd hpd hst hw1 hr1 hs1 hm1 hpo hp
    go_wp2_with fail
    exact vret (x := V.nil) rfl rfl HD.out rfl rfl ⟨HSD.out, Or.inr ⟨HST.out, p, HP.out, rfl, HMD.out, HPD.out⟩⟩

end Go.Proofs.YtcbapmkipcffgaaDoor
