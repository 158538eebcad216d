/-
  What HookCalls stands on: told, rialtoref2.Same, rialtoplay.Set, Setter, hook.Mutate with it. Conditions: few values, small counts.
-/
import Derived.Test.YtcbapmkipcffgaaDoorKeyComparesW
import Derived.Test.YtcbapmkipcffgaaDoorErrsIs
namespace Go.Proofs.YtcbapmkipcffgaaDoor
open Go.RowKit Go.Extern.Stop Go.Stop Go.Extern Go.Lib
set_option maxRecDepth 1000000

theorem told_nil {w : World} {m : Nat} {c a h : Int} (hm : w.heap[m]? = some (meterObj c a h 0)) (wh : ByteArray) :
    Calls Tryd.prog 41 #[.nilIface, .pointer (some ⟨m, 0, none⟩), .string wh] w fun e w' => e = .returned (.bool true) ∧ Same (fun _ => False) w w' := by
  obtain ⟨c0, c1, c2, c3, cf⟩ := meter_cells hm
  go_enter Tryd.func41, Tryd.ntmps41
  go_wp2_with fail
  go_ret
  exact ⟨rfl, Same.refl _ _⟩

theorem told_value {w : World} {m p : Nat} {c a h : Int} {wf : ByteArray} (hm : w.heap[m]? = some (meterObj c a h 0)) (hp : w.heap[p]? = some (faultObj wf (errN 10) .nilIface)) (hg : Handle w) (wh : ByteArray) :
    Calls Tryd.prog 41 #[fltV p, .pointer (some ⟨m, 0, none⟩), .string wh] w fun e w' => e = .returned (.bool true) ∧ Same (fun _ => False) w w' := by
  obtain ⟨c0, c1, c2, c3, cf⟩ := meter_cells hm
  have HCL := Lib.hid (class_fault hp (ok_errno 10 _) hg)
  have HIS := Lib.hid (fun (w' : World) (h : Same (fun _ => False) w w') => is_other (m := 10) (by decide) (unw_err (h.obj hp id)))
  clear hm hp hg
  go_enter Tryd.func41, Tryd.ntmps41
  go_wp2_with fail
  refine HCL.out.mono ?_
  rintro e w1 ⟨rfl, hs1⟩
  have HS1 := Lib.hid hs1
  clear hs1
  go_wp2_with fail
  refine (HIS.out _ HS1.out).mono ?_
  rintro e w2 ⟨rfl, hs2⟩
  have HS2 := Lib.hid (HS1.out.trans hs2 (fun _ _ h => h))
  clear hs2
  go_wp2_with fail
  go_ret
  exact ⟨rfl, HS2.out⟩

theorem told_mark {w : World} {m p q : Nat} {a h : Int} {wh : ByteArray} (hm : w.heap[m]? = some (meterObj 1 a h 1)) (ha : 0 ≤ a ∧ a ≤ 1) (hp : w.heap[p]? = some (faultObj wh (markI q) .nilIface)) (hq : w.heap[q]? = some (markObj (1000 + a))) (hg : Handle w) :
    Calls Tryd.prog 41 #[fltV p, .pointer (some ⟨m, 0, none⟩), .string wh] w fun e w' => e = .returned (.bool true) ∧ Same (fun _ => False) w w' := by
  obtain ⟨c0, c1, c2, c3, cf⟩ := meter_cells hm
  have HST := Lib.hid (struck_told hp (hq : One w q (.int .i64 (1000 + a)) 43) hg)
  have HMK := Lib.hid (fun (w' : World) (h : Same (fun _ => False) w w') => mmark_any (h.obj hm id) (by omega) (by omega))
  have HWH := Lib.hid (fun (w' : World) (h : Same (fun _ => False) w w') => where_fault (h.obj hp id) (ok_mark _ _) (hg.same h id))
  clear hm hp hq hg ha
  go_enter Tryd.func41, Tryd.ntmps41
  go_wp2_with fail
  refine HST.out.mono ?_
  rintro e w1 ⟨rfl, hs1⟩
  have HS1 := Lib.hid hs1
  clear hs1
  go_wp2_with fail
  refine (HMK.out _ HS1.out).mono ?_
  rintro e w2 ⟨rfl, rfl⟩
  go_wp2_with fail
  refine (HWH.out _ HS1.out).mono ?_
  rintro e w3 ⟨rfl, hs3⟩
  have HS3 := Lib.hid (HS1.out.trans hs3 (fun _ _ h => h))
  clear hs3
  go_wp2_with fail
  go_ret
  exact ⟨rfl, HS3.out⟩

theorem rsame_self (x : V) (hx : x.ok) (w : World) :
    Calls Tryd.prog 42 #[x.val, x.val] w fun e w' => e = .returned (.bool true) ∧ Same (fun _ => False) w w' := by
  have hs := ((Same.refl (fun _ => False) w).alloc x.obj).alloc x.obj
  have HS := Lib.hid hs
  have hc : cmpV x x = 0 := cmpV_self x
  have HC := Lib.hid (fun w => compare_any x x hx hx w)
  rw [hc] at HC
  obtain ⟨k, i, s, f⟩ := x
  clear hx hc hs
  go_enter Tryd.func42, Tryd.ntmps42
  go_wp2_with fail
  refine (HC.out _).mono ?_
  rintro e w' ⟨rfl, rfl⟩
  go_wp2_with fail
  go_ret
  exact ⟨rfl, (HS.out.alloc _).alloc _⟩

/-- A row with a field set. -/
def setL (L : List V) (n : Int) (y : V) : List V := if 0 ≤ n ∧ n < L.length then L.set n.toNat y else L ++ [y]

abbrev vsetN (w : World) (g o : Nat) (y : V) : World := (((w.setCell ⟨g, o, none⟩ (.int .i64 y.k)).setCell ⟨g, o + 1, none⟩ (.int .i64 y.i)).setCell ⟨g, o + 2, none⟩ (.string y.s)).setCell ⟨g, o + 3, none⟩ (.float .f64 y.f)

theorem readV_set {w : World} {g cap n : Nat} {cs : Array Value} {L : List V} {y : V} (hg : w.heap[g]? = some (.cells cs 38 (0, 0))) (hr : ReadV w (.slice (some ⟨g, 0, none⟩) L.length cap) L) (hn : n < L.length) :
    ReadV (vsetN w g (n * 4) y) (.slice (some ⟨g, 0, none⟩) (L.set n y).length cap) (L.set n y) := by
  have hobj : (vsetN w g (n * 4) y).heap[g]? = some (.cells ((((cs.setIfInBounds (n * 4) (.int .i64 y.k)).setIfInBounds (n * 4 + 1) (.int .i64 y.i)).setIfInBounds (n * 4 + 2) (.string y.s)).setIfInBounds (n * 4 + 3) (.float .f64 y.f)) 38 (0, 0)) := vset_at (vset_at (vset_at (vset_at hg)))
  have hlt := lt_of_block hobj
  obtain ⟨ao, c, he, hc⟩ := hr
  cases he
  have hcell : ∀ x u, w.cell? ⟨g, x, none⟩ = some u → cs[x]? = some u := by
    intro x u hx
    simpa [World.cell?, hg] using hx
  refine ⟨_, cap, rfl, fun j x hj => ?_⟩
  refine ⟨g, 0, rfl, hlt, ?_⟩
  rw [List.getElem?_set] at hj
  obtain ⟨b, off, e, _, n0, n1, n2, n3⟩ := hc n L[n] (List.getElem?_eq_getElem hn)
  cases e
  have z3 := hcell _ _ n3
  have hsz : n * 4 + 3 < cs.size := by
    have := (Array.getElem?_eq_some_iff.1 z3).1
    omega
  by_cases hjn : n = j
  · subst hjn
    rw [if_pos rfl, if_pos hn] at hj
    cases hj
    simp only [World.cell?, hobj, Nat.zero_add]
    refine ⟨?_, ?_, ?_, ?_⟩ <;> simp [Array.getElem?_setIfInBounds] <;> omega
  · rw [if_neg hjn] at hj
    obtain ⟨b, off, e, _, m0, m1, m2, m3⟩ := hc j x hj
    cases e
    have y0 := hcell _ _ m0
    have y1 := hcell _ _ m1
    have y2 := hcell _ _ m2
    have y3 := hcell _ _ m3
    simp only [Nat.zero_add] at y0 y1 y2 y3
    simp only [World.cell?, hobj, Nat.zero_add]
    refine ⟨?_, ?_, ?_, ?_⟩
    · simp only [Array.getElem?_setIfInBounds]
      rw [if_neg (by simp)]
      repeat rw [if_neg (by omega)]
      exact y0
    · simp only [Array.getElem?_setIfInBounds]
      rw [if_neg (by simp)]
      repeat rw [if_neg (by omega)]
      exact y1
    · simp only [Array.getElem?_setIfInBounds]
      rw [if_neg (by simp)]
      repeat rw [if_neg (by omega)]
      exact y2
    · simp only [Array.getElem?_setIfInBounds]
      rw [if_neg (by simp)]
      repeat rw [if_neg (by omega)]
      exact y3

/-- What rialtoplay.Set ends with. -/
def SetTold (w : World) (L : List V) (n : Int) (y : V) (e : Ending) (w' : World) : Prop :=
  Same (fun _ => False) w w' ∧ ∃ ao c, e = .returned (.slice ao (setL L n y).length c) ∧ ReadV w' (.slice ao (setL L n y).length c) (setL L n y) ∧ ∀ b off, ao = some ⟨b, off, none⟩ → w.heap.size ≤ b

set_option maxHeartbeats 8000000 in
theorem set_any {w : World} {vs : Value} {L : List V} {n : Int} {y : V} (hr : ReadV w vs L) (hn : L.length ≤ 100) :
    Calls Tryd.prog 45 #[vs, .int .i64 n, y.val] w fun e w' => SetTold w L n y e w' := by
  have hs0 := (Same.refl (fun _ => False) w).alloc y.obj
  have HR := Lib.hid (hr.same hs0); have HS0 := Lib.hid hs0; have HB0 := Lib.hid (heap_alloc_new w y.obj)
  obtain ⟨vo, vc, rfl⟩ := readV_len hr
  obtain ⟨yk, yi, ys, yf⟩ := y
  clear hr hs0
  go_enter Tryd.func45, Tryd.ntmps45
  go_wp2_with (at_builtin; refine wpList_append_vals (w.alloc (V.obj ⟨yk, yi, ys, yf⟩)) rfl _ _ rfl (w.heap.size + 1) (.slice none 0 0) 0 [] rfl (World.ownsRow_nil _ _ _ _) (.slice vo L.length vc) L rfl HR.out ?c3 ?c4 ?_)
  case c3 => omega
  case c4 => simp
  intro u w9 h1 h2 h3
  have hs9 : Same (fun _ => False) (w.alloc (V.obj ⟨yk, yi, ys, yf⟩)) w9 := h2.narrow (fun k _ e => by cases e)
  have h1' : w9.ownsRow (w.heap.size + 1) 38 4 u L.length (vals L) := by simpa using h1
  have hb9 := hs9.obj HB0.out id
  obtain ⟨y0, y1, y2, y3⟩ := obj_cells hb9
  have H1 := Lib.hid h1'; have HS := Lib.hid (HS0.out.trans hs9 (fun _ _ h => h)); have HLT := Lib.hid (lt_of_block hb9)
  clear h1 h2 h3 hs9 hb9
  by_cases hin : 0 ≤ n ∧ n < L.length
  · obtain ⟨k, rfl⟩ : ∃ k : Nat, n = k := ⟨n.toNat, by omega⟩
    have hk : k < L.length := by omega
    obtain ⟨g, gc, rfl, hgB, hgl, hgn, hgm, ⟨cur, hgc⟩, ff, _⟩ := own_first h1' (by omega)
    have hrr := ReadV.own h1'
    obtain ⟨ao, c, e, hc⟩ := hrr
    cases e
    obtain ⟨b, off, e, _, q0, q1, q2, q3⟩ := hc k L[k] (List.getElem?_eq_getElem hk)
    cases e
    have hset := readV_set (y := ⟨yk, yi, ys, yf⟩) hgc (ReadV.own h1') hk
    have hss : Same (fun j => j = g) w9 (vsetN w9 g (k * 4) ⟨yk, yi, ys, yf⟩) := ((((Same.refl (fun j => j = g) w9).setCell (p := ⟨g, k * 4, none⟩) (fun _ => rfl) _).setCell (p := ⟨g, k * 4 + 1, none⟩) (fun _ => rfl) _).setCell (p := ⟨g, k * 4 + 2, none⟩) (fun _ => rfl) _).setCell (p := ⟨g, k * 4 + 3, none⟩) (fun _ => rfl) _
    have HE := Lib.hid (show SetTold w L (k : Int) ⟨yk, yi, ys, yf⟩ (.returned (.slice (some ⟨g, 0, none⟩) L.length gc)) (vsetN w9 g (k * 4) ⟨yk, yi, ys, yf⟩) from ⟨HS.out.trans hss (fun j hj e => by omega), some ⟨g, 0, none⟩, gc, by unfold setL; rw [if_pos hin]; simp, by unfold setL; rw [if_pos hin]; simpa using hset, fun b off e => by cases e; omega⟩)
    have hk' : (k : Int) < (L.length : Int) := by omega
    unfold maxLen at hgm
    simp only [Nat.zero_add] at q0 q1 q2 q3
    clear hin hc hset hss h1' hgc
    go_wp2_with fail
    go_ret
    exact HE.out
  · obtain ⟨uo, uc, rfl⟩ := readV_len (ReadV.own h1')
    have hq : setL L n ⟨yk, yi, ys, yf⟩ = L ++ [⟨yk, yi, ys, yf⟩] := by unfold setL; rw [if_neg hin]
    have HQ := Lib.hid hq
    clear h1' hq
    have hfin : ∀ (g gc : Nat) (w4 : World), w4.ownsRow (w.heap.size + 1) 38 4 (.slice (some ⟨g, 0, none⟩) (L.length + 1) gc) (L.length + 1) (vals L ++ [.int .i64 yk, .int .i64 yi, .string ys, .float .f64 yf]) → w9.grownBy w4 (Value.slice uo L.length uc).ownBlock → SetTold w L n ⟨yk, yi, ys, yf⟩ (.returned (.slice (some ⟨g, 0, none⟩) (L.length + 1) gc)) w4 := by
      intro g gc w4 ho hg
      have hlb : ∀ j, (Value.slice uo L.length uc).ownBlock = some j → w.heap.size + 1 ≤ j := fun j hj => (H1.out.lt j hj).1
      have h94 : Same (fun j => (Value.slice uo L.length uc).ownBlock = some j) w9 w4 := (Same.refl _ w9).grown hg (fun j hj _ => hj)
      have ho2 : w4.ownsRow (w.heap.size + 1) 38 4 (.slice (some ⟨g, 0, none⟩) (L.length + 1) gc) (L ++ [(⟨yk, yi, ys, yf⟩ : V)]).length (vals (L ++ [(⟨yk, yi, ys, yf⟩ : V)])) := by
        rw [vals_snoc, List.length_append]; exact ho
      have hr := ReadV.own ho2
      have hgb := (ho2.lt g rfl).1
      refine ⟨HS.out.trans h94 (fun j hj e => by have := hlb j e; omega), some ⟨g, 0, none⟩, gc, ?_, ?_, fun b off e => by cases e; omega⟩
      · rw [HQ.out]; simp
      · rw [HQ.out]; simpa using hr
    have HFIN := Lib.hid hfin
    clear hfin
    by_cases h0 : 0 ≤ n
    · have h1 : ¬ n < (L.length : Int) := fun h => hin ⟨h0, h⟩
      clear hin
      go_wp2_with (at_builtin; refine wpList_append_elem w9 rfl (.tmp 23) (.tmp 25) 29 rfl (w.heap.size + 1) 38 (.agg #[.int .i64 0, .int .i64 0, .string ⟨#[]⟩, .float .f64 0]) 4 40 Tryd.underlying29 value_info rfl (by decide) (.slice uo L.length uc) L.length (vals L) rfl H1.out [.int .i64 yk, .int .i64 yi, .string ys, .float .f64 yf] 1 ?_ rfl ?_ ?_ ?_ ?_ ?_; (focus (simp [go_sem])); (focus (intro u hu; simp at hu; rcases hu with rfl | rfl | rfl | rfl <;> rfl)); (focus (unfold maxLen; omega)); (focus omega); (focus (have := HLT.out; omega)); intro g gcap w4 hown hgrow _ _ _; have HN := Lib.hid (HFIN.out g gcap w4 hown hgrow); clear hown hgrow)
      go_ret
      exact HN.out
    · clear hin
      go_wp2_with (at_builtin; refine wpList_append_elem w9 rfl (.tmp 23) (.tmp 25) 29 rfl (w.heap.size + 1) 38 (.agg #[.int .i64 0, .int .i64 0, .string ⟨#[]⟩, .float .f64 0]) 4 40 Tryd.underlying29 value_info rfl (by decide) (.slice uo L.length uc) L.length (vals L) rfl H1.out [.int .i64 yk, .int .i64 yi, .string ys, .float .f64 yf] 1 ?_ rfl ?_ ?_ ?_ ?_ ?_; (focus (simp [go_sem])); (focus (intro u hu; simp at hu; rcases hu with rfl | rfl | rfl | rfl <;> rfl)); (focus (unfold maxLen; omega)); (focus omega); (focus (have := HLT.out; omega)); intro g gcap w4 hown hgrow _ _ _; have HN := Lib.hid (HFIN.out g gcap w4 hown hgrow); clear hown hgrow)
      go_ret
      exact HN.out

abbrev seF (bm bn bv : Nat) : Value := .func (.func 80) #[] #[.pointer (some ⟨bm, 0, none⟩), .pointer (some ⟨bn, 0, none⟩), .pointer (some ⟨bv, 0, none⟩)]

theorem setr_enter (args : Array Value) (w : World) : (callFunc 80 args).run Tryd.prog w = .ok (.enter 80 args) w := by kernel_rfl

/-- What the mutator ends with. -/
def SetEnd (L : List V) (n : Int) (y : V) (w : World) (mp : Value) (c a h s : Int) (e : Ending) (w' : World) : Prop :=
  (¬ Strikes mp c a ∧ (∃ ao cc, e = .returned (.tuple #[.slice ao (setL L n y).length cc, .nilIface]) ∧ ReadV w' (.slice ao (setL L n y).length cc) (setL L n y) ∧ ∀ b off, ao = some ⟨b, off, none⟩ → w.heap.size ≤ b) ∧ MAt w' mp (c + 1) a h s) ∨
  (Strikes mp c a ∧ ∃ p, w.heap.size ≤ p ∧ e = .returned (.tuple #[.slice none 0 0, markI p]) ∧ MAt w' mp (c + 1) a h (s + 1) ∧ w'.heap[p]? = some (markObj (1000 + a)))

set_option maxHeartbeats 8000000 in
theorem setr_any {w : World} {x mp : Value} {L : List V} {n c a h s : Int} {y : V} {B bm bn bv : Nat} (hx : w.ownsRow B 38 4 x L.length (vals L)) (hn : L.length ≤ 100)
    (hbm : One w bm mp 70) (hbn : One w bn (.int .i64 n) 3) (hbv : w.heap[bv]? = some y.obj) (hm : MAt w mp c a h s) (hsm : MSmall c a s) :
    Calls Tryd.prog 80 #[x, .pointer (some ⟨bm, 0, none⟩), .pointer (some ⟨bn, 0, none⟩), .pointer (some ⟨bv, 0, none⟩)] w fun e w' => Same (Blk mp) w w' ∧ SetEnd L n y w mp c a h s e w' := by
  have c0 := hbm.cell
  have nv : ¬ Blk mp bv := hm.ne_cells hbv (by decide)
  have HT := Lib.hid (tick_mp hm hsm)
  have HSET := Lib.hid (fun w' (hs : Same (Blk mp) w w') => set_any (n := n) (y := y) (ReadV.own (hs.row hx (fun k hk hB => hm.ne_own hx hB hk))) hn)
  obtain ⟨xo, xc, rfl⟩ := readV_len (ReadV.own hx)
  have HBN := Lib.hid hbn; have HM := Lib.hid hm; have HBV := Lib.hid hbv; have NV := Lib.hid nv
  clear hx hbm hbn hbv hm nv
  go_enter Tryd.func80, Tryd.ntmps80
  go_wp2_with fail
  refine HT.out.mono ?_
  rintro e w1 ⟨hs1, hend⟩
  clear c0
  rcases hend with ⟨hst, rfl, hm1⟩ | ⟨hst, p, hp, rfl, hm1, hpo⟩
  · have cn := (hs1.one HBN.out (HM.out.ne_one HBN.out)).cell
    obtain ⟨v0, v1, v2, v3⟩ := obj_cells (hs1.obj HBV.out NV.out)
    have HC1 := Lib.hid (HSET.out w1 hs1)
    have HS1 := Lib.hid hs1; have HM1 := Lib.hid hm1; have HST := Lib.hid hst
    obtain ⟨yk, yi, ys, yf⟩ := y
    simp only at v0 v1 v2 v3
    clear hs1 hm1 hst
    go_wp2_with fail
    refine HC1.out.mono ?_
    rintro e w2 ⟨hs2, ao, cc, rfl, hr2, hb2⟩
    have HS2 := Lib.hid (HS1.out.trans hs2 (fun _ _ h => h.elim)); have HM2 := Lib.hid (HM1.out.same hs2 (fun _ _ => id)); have HR2 := Lib.hid hr2; have HB2 := Lib.hid hb2
    clear hs2 hr2 hb2 cn v0 v1 v2 v3
    go_wp2_with fail
    go_ret2
    exact ⟨HS2.out, Or.inl ⟨HST.out, ⟨ao, cc, rfl, HR2.out, fun b off e => by have := HB2.out b off e; have := HS1.out.size; omega⟩, HM2.out⟩⟩
  · have HS1 := Lib.hid hs1; have HM1 := Lib.hid hm1; have HST := Lib.hid hst; have HPO := Lib.hid hpo; have HP := Lib.hid hp
    clear hs1 hm1 hst hpo hp
    go_wp2_with fail
    go_ret2
    exact ⟨HS1.out, Or.inr ⟨HST.out, p, HP.out, rfl, HM1.out, HPO.out⟩⟩

/-- The three boxes that Setter lays. -/
abbrev setW (w : World) (n : Int) (y : V) (mp : Value) : World := ((w.alloc (.cells #[.int .i64 n] 3)).alloc y.obj).alloc (.cells #[mp] 70)

theorem setter_any (n : Int) (y : V) (m : Nat) (w : World) : Calls Tryd.prog 44 #[.int .i64 n, y.val, .pointer (some ⟨m, 0, none⟩)] w fun e w' => e = .returned (seF (w.heap.size + 1 + 1) w.heap.size (w.heap.size + 1)) ∧ w' = setW w n y (.pointer (some ⟨m, 0, none⟩)) := by
  obtain ⟨yk, yi, ys, yf⟩ := y
  go_enter Tryd.func44, Tryd.ntmps44
  go_wp2_with fail
  go_ret
  exact ⟨rfl, rfl⟩

theorem setW_at (w : World) (n : Int) (y : V) (mp : Value) : Same (fun _ => False) w (setW w n y mp) ∧ One (setW w n y mp) w.heap.size (.int .i64 n) 3 ∧ (setW w n y mp).heap[w.heap.size + 1]? = some y.obj ∧ One (setW w n y mp) (w.heap.size + 1 + 1) mp 70 := by
  refine ⟨(((Same.refl _ w).alloc _).alloc _).alloc _, ((One.new w _ _).alloc _).alloc _, ?_, ?_⟩
  · have h := heap_alloc_new (w.alloc (.cells #[.int .i64 n] 3)) y.obj
    rw [show (w.alloc (.cells #[.int .i64 n] 3)).heap.size = w.heap.size + 1 by simp] at h
    exact ((Same.refl (fun _ => False) ((w.alloc (.cells #[.int .i64 n] 3)).alloc y.obj)).alloc _).obj h id
  · have h := One.new ((w.alloc (.cells #[.int .i64 n] 3)).alloc y.obj) mp 70
    rwa [show ((w.alloc (.cells #[.int .i64 n] 3)).alloc y.obj).heap.size = w.heap.size + 1 + 1 by simp] at h

/-- What hook.Mutate tells with it. -/
def MtTold (L : List V) (n : Int) (y : V) (w : World) (mp : Value) (c a h s : Int) (e : Ending) (w' : World) : Prop :=
  (¬ Strikes mp c a ∧ (∃ u, e = .returned (.tuple #[u, .nilIface]) ∧ w'.ownsRow (w.heap.size + 6) 38 4 u (setL L n y).length (vals (setL L n y))) ∧ MAt w' mp (c + 1) a h s) ∨
  (Strikes mp c a ∧ (∃ p q, e = .returned (.tuple #[.slice none 0 0, fltV p]) ∧ w'.heap[p]? = some (faultObj ⟨#[]⟩ (markI q) .nilIface) ∧ w'.heap[q]? = some (markObj (1000 + a))) ∧ MAt w' mp (c + 1) a h (s + 1))

theorem slice_tuple {a b : Option Addr} {n m c d : Nat} {x y : Value} (h : Ending.returned (.tuple #[.slice a n c, x]) = .returned (.tuple #[.slice b m d, y])) : (a = b ∧ n = m ∧ c = d) ∧ x = y := by
  simp only [Ending.returned.injEq, Value.tuple.injEq, Array.mk.injEq, List.cons.injEq, Value.slice.injEq, and_true] at h
  exact h

theorem setL_len {L : List V} {n : Int} {y : V} : (setL L n y).length ≤ L.length + 1 := by
  unfold setL
  split <;> simp

theorem hmutate_play {w : World} {vs mp : Value} {L : List V} {n c a h s : Int} {y : V} {bm bn bv : Nat} (hr : ReadV w vs L) (hn : L.length ≤ 100)
    (hbm : One w bm mp 70) (hbn : One w bn (.int .i64 n) 3) (hbv : w.heap[bv]? = some y.obj) (hm : MAt w mp c a h s) (hsm : MSmall c a s) :
    Calls Tryd.prog 28 #[seF bm bn bv, vs] w fun e w' => Same (Blk mp) w w' ∧ MtTold L n y w mp c a h s e w' := by
  refine (mutate_any (F := Blk mp) (R := fun w1 e w2 => SetEnd L n y w1 mp c a h s e w2) setr_enter hr (by omega) (fun k hk => hm.lt hk) (fun w1 x h1 h2 h6 => ?_)).mono ?_
  · refine (setr_any h2 hn (h1.one hbm id) (h1.one hbn id) (h1.obj hbv id) (hm.same h1 (fun _ _ => id)) hsm).mono fun e w2 ⟨q1, q2⟩ => ⟨?_, q1.weaken (fun _ _ h => Or.inl h), q2⟩
    rcases q2 with ⟨_, ⟨ao, cc, rfl, hr2, hb2⟩, _⟩ | ⟨_, p, _, q3, _⟩
    · exact Or.inl ⟨_, _, _, _, rfl, Or.inl ⟨rfl, _, by have := setL_len (L := L) (n := n) (y := y); omega, hr2, fun b off e => by have := hb2 b off e; omega⟩⟩
    · exact Or.inl ⟨_, _, _, _, q3, Or.inr ⟨_, _, rfl⟩⟩
  · rintro e w' ⟨w1, e0, w2, a1, a2, a3, a4, a5, a6, a7⟩
    have hsame : Same (Blk mp) w w' := a3.trans a6 (fun k hk h => by omega)
    have hbk : ∀ k, Blk mp k → ¬ (w.heap.size ≤ k ∧ k < w.heap.size + 6) := fun k hk => by have := hm.lt hk; omega
    refine ⟨hsame, ?_⟩
    rcases a2 with ⟨b1, ⟨ao, cc, rfl, hr2, hb2⟩, b3⟩ | ⟨b1, p, b2, rfl, b4, b5⟩
    · rcases a7 with ⟨ao', n', c', L', u, c1, c2, c3, rfl, c5⟩ | ⟨ao', n', c', D, z, p, c1, _⟩ | ⟨T, z, p, c1, _⟩
      · obtain ⟨⟨rfl, rfl, rfl⟩, _⟩ := slice_tuple c1
        have hL := readV_inj c3 hr2
        subst hL
        exact Or.inl ⟨b1, ⟨u, rfl, c5⟩, b3.same a6 hbk⟩
      · have := (slice_tuple c1).2
        cases this
      · cases c1
    · rcases a7 with ⟨ao', n', c', L', u, c1, _⟩ | ⟨ao', n', c', D, z, p', c1, rfl, ho⟩ | ⟨T, z, p, c1, _⟩
      · have := (slice_tuple c1).2
        cases this
      · have e1 := (slice_tuple c1).2
        cases e1
        exact Or.inr ⟨b1, ⟨p', p, rfl, ho, a6.obj b5 (by omega)⟩, b4.same a6 hbk⟩
      · cases c1

end Go.Proofs.YtcbapmkipcffgaaDoor
