/-
  key.Compare with the statements' comparators; rialtolaw7.good, rialtoref7.Keys. Conditions: few values, short texts, small counts.
-/
import Derived.Test.YtcbapmkipcffgaaDoorKeyOrder
import Derived.Test.YtcbapmkipcffgaaDoorKeyTellsW
namespace Go.Proofs.YtcbapmkipcffgaaDoor
open Go.RowKit Go.Extern.Stop Go.Stop Go.Extern Go.Lib
set_option maxRecDepth 1000000

/-- What hook.Compare tells with the statements' comparator n. -/
def CoTold (wh : ByteArray) (n : Int) (A B : List V) (mp : Value) (c a h s : Int) (e : Ending) (w' : World) : Prop :=
  (¬ Strikes mp c a ∧ e = .returned (.tuple #[.int .i64 (cmpR n A B), .nilIface]) ∧ MAt w' mp (c + 1) a h s) ∨
  (Strikes mp c a ∧ (∃ p q, e = .returned (.tuple #[.int .i64 0, fltV p]) ∧ w'.heap[p]? = some (faultObj wh (markI q) .nilIface) ∧ w'.heap[q]? = some (markObj (1000 + a))) ∧ MAt w' mp (c + 1) a h (s + 1))

theorem int_tuple {m n : Int} {a b : Value} (h : Ending.returned (.tuple #[.int .i64 m, a]) = .returned (.tuple #[.int .i64 n, b])) : m = n ∧ a = b := by
  simp only [Ending.returned.injEq, Value.tuple.injEq, Array.mk.injEq, List.cons.injEq, Value.int.injEq, and_true, true_and] at h
  exact h

theorem sgnI_seven {r : Int} (h : -1 ≤ r ∧ r ≤ 1) : sgnI (7 * r) = r := by
  unfold sgnI cmpI
  split
  · omega
  · split <;> omega

theorem hcompare_play {w : World} {wh : ByteArray} {va vb mp : Value} {A B : List V} {n c a h s : Int} {bm bn : Nat} (hra : ReadV w va A) (hrb : ReadV w vb B) (oka : ∀ y ∈ A, y.ok) (okb : ∀ y ∈ B, y.ok) (hsa : ∀ y ∈ A, y.s.size ≤ 200) (hsb : ∀ y ∈ B, y.s.size ≤ 200) (hna : A.length ≤ 1000) (hnb : B.length ≤ 1000)
    (hbm : One w bm mp 70) (hbn : One w bn (.int .i64 n) 3) (hm : MAt w mp c a h s) (hsm : MSmall c a s) :
    Calls Tryd.prog 43 #[.string wh, coF bm bn, va, vb] w fun e w' => Same (Blk mp) w w' ∧ CoTold wh n A B mp c a h s e w' := by
  have hrange := cmpR_range n A B
  refine (hcompare_any (wh := wh) (F := Blk mp) (R := fun w1 e w2 => CmpEnd n A B w1 mp c a h s e w2) cmpr_enter hra hna hrb hnb (fun k hk => hm.lt hk) (fun w1 x y h1 h2 h3 => ?_)).mono ?_
  · refine (cmpr_any h2 h3 oka okb hsa hsb hna hnb (h1.one hbm id) (h1.one hbn id) (hm.same h1 (fun _ _ => id)) hsm).mono fun e w2 ⟨q1, q2⟩ => ⟨?_, q1.weaken (fun _ _ h => Or.inl h), q2⟩
    rcases q2 with ⟨_, q3, _⟩ | ⟨_, p, _, q3, _⟩
    · exact Or.inl ⟨_, _, by omega, by omega, q3, Or.inl rfl⟩
    · exact Or.inl ⟨_, _, by omega, by omega, q3, Or.inr ⟨_, _, rfl⟩⟩
  · rintro e w' ⟨w1, e0, w2, a1, a2, a3, a4, a5, a6, a7⟩
    have hsame : Same (Blk mp) w w' := a3.trans a6 (fun k hk h => by omega)
    have hbk : ∀ k, Blk mp k → ¬ (w.heap.size ≤ k ∧ k < w.heap.size + 7) := fun k hk => by have := hm.lt hk; omega
    refine ⟨hsame, ?_⟩
    rcases a2 with ⟨b1, rfl, b3⟩ | ⟨b1, p, b2, rfl, b4, b5⟩
    · rcases a7 with ⟨m, c1, rfl⟩ | ⟨m, D, z, p, c1, _⟩ | ⟨T, z, p, c1, _⟩
      · obtain ⟨rfl, _⟩ := int_tuple c1
        rw [sgnI_seven hrange]
        exact Or.inl ⟨b1, rfl, b3.same a6 hbk⟩
      · have := (int_tuple c1).2
        cases this
      · cases c1
    · rcases a7 with ⟨m, c1, _⟩ | ⟨m, D, z, p', c1, rfl, ho⟩ | ⟨T, z, p, c1, _⟩
      · have := (int_tuple c1).2
        cases this
      · have e1 := (int_tuple c1).2
        cases e1
        exact Or.inr ⟨b1, ⟨p', p, rfl, ho, a6.obj b5 (by omega)⟩, b4.same a6 hbk⟩
      · cases c1

/-- What key.Compare ends with. -/
def KcEnd (wh : ByteArray) (n : Int) (A B : List V) (mp : Value) (c a h s : Int) (e : Ending) (w' : World) : Prop :=
  (n = -1 ∧ e = .returned (.tuple #[.int .i64 (rowsV A B), .nilIface]) ∧ MAt w' mp c a h s) ∨
  ((n < -1 ∨ 3 ≤ n) ∧ e = .returned (.tuple #[.int .i64 0, errN 60]) ∧ MAt w' mp c a h s) ∨
  (0 ≤ n ∧ n < 3 ∧ CoTold wh n A B mp c a h s e w')

abbrev dhW (w : World) (name : ByteArray) (kind : Int) (parts : Value) (cmp : Int) (ve vce : Value) : World := (w.alloc (defObj name kind parts cmp)).alloc (hooksObj ve vce)

theorem dhW_at (w : World) (name : ByteArray) (kind : Int) (parts : Value) (cmp : Int) (ve vce : Value) : Same (fun _ => False) w (dhW w name kind parts cmp ve vce) ∧ (dhW w name kind parts cmp ve vce).heap[w.heap.size]? = some (defObj name kind parts cmp) ∧ (dhW w name kind parts cmp ve vce).heap[w.heap.size + 1]? = some (hooksObj ve vce) := by
  refine ⟨((Same.refl _ w).alloc _).alloc _, ((Same.refl (fun _ => False) (w.alloc (defObj name kind parts cmp))).alloc _).obj (heap_alloc_new w _) id, ?_⟩
  have h := heap_alloc_new (w.alloc (defObj name kind parts cmp)) (hooksObj ve vce)
  rwa [show (w.alloc (defObj name kind parts cmp)).heap.size = w.heap.size + 1 by simp] at h

section
variable {w : World} {name : ByteArray} {kind cmp : Int} {va vb mp : Value} {A B : List V} {c a h s : Int} {po eo co : Option Addr} {pn pc en ec cc : Nat}

set_option maxHeartbeats 8000000 in
theorem kco_rows (ra : ReadV w va A) (rb : ReadV w vb B) (oka : ∀ x ∈ A, x.ok) (okb : ∀ x ∈ B, x.ok) (na : A.length ≤ 1000) (nb : B.length ≤ 1000) :
    Calls Tryd.prog 47 #[defV name kind (.slice po pn pc) (-1), .agg #[.slice eo en ec, .slice co 3 cc], va, vb] w fun e w' => Same (fun _ => False) w w' ∧ e = .returned (.tuple #[.int .i64 (rowsV A B), .nilIface]) := by
  obtain ⟨hs, hd, hh⟩ := dhW_at w name kind (.slice po pn pc) (-1) (.slice eo en ec) (.slice co 3 cc)
  have HR := Lib.hid (vrows_any (ra.same hs) (rb.same hs) oka okb (by unfold maxLen; omega) (by unfold maxLen; omega))
  have HS := Lib.hid hs
  obtain ⟨ao, ac, rfl⟩ := readV_len ra
  obtain ⟨bo, bc, rfl⟩ := readV_len rb
  clear hs hd hh ra rb oka okb na nb
  go_enter Tryd.func47, Tryd.ntmps47
  go_wp2_with fail
  refine HR.out.mono ?_
  rintro e w' ⟨rfl, hs'⟩
  have HT := Lib.hid (HS.out.trans hs' (fun _ _ h => h))
  clear hs'
  go_wp2_with fail
  go_ret2
  exact ⟨HT.out, rfl⟩

set_option maxHeartbeats 8000000 in
theorem kco_none (hc : cmp < -1 ∨ 3 ≤ cmp) :
    Calls Tryd.prog 47 #[defV name kind (.slice po pn pc) cmp, .agg #[.slice eo en ec, .slice co 3 cc], va, vb] w fun e w' => Same (fun _ => False) w w' ∧ e = .returned (.tuple #[.int .i64 0, errN 60]) := by
  obtain ⟨hs, hd, hh⟩ := dhW_at w name kind (.slice po pn pc) cmp (.slice eo en ec) (.slice co 3 cc)
  have HS := Lib.hid hs
  clear hs hd hh
  have h1 : (cmp == -1) = false := by simp; omega
  rcases hc with hc | hc
  · have h2 : cmp < 0 := by omega
    clear hc
    go_enter Tryd.func47, Tryd.ntmps47
    go_wp2_with fail
    go_ret2
    exact ⟨HS.out, rfl⟩
  · have h2 : ¬ cmp < 0 := by omega
    go_enter Tryd.func47, Tryd.ntmps47
    go_wp2_with fail
    go_ret2
    exact ⟨HS.out, rfl⟩

theorem CoTold.shape {wh : ByteArray} {n : Int} {e : Ending} {w' : World} (ht : CoTold wh n A B mp c a h s e w') : ∃ (x : Int) (er : Value), e = .returned (.tuple #[.int .i64 x, er]) := by
  rcases ht with ⟨_, e, _⟩ | ⟨_, ⟨p, q, e, _⟩, _⟩
  · exact ⟨_, _, e⟩
  · exact ⟨_, _, e⟩

set_option maxHeartbeats 8000000 in
theorem kco_hook (ra : ReadV w va A) (rb : ReadV w vb B) (oka : ∀ x ∈ A, x.ok) (okb : ∀ x ∈ B, x.ok) (hsa : ∀ y ∈ A, y.s.size ≤ 200) (hsb : ∀ y ∈ B, y.s.size ≤ 200) (na : A.length ≤ 1000) (nb : B.length ≤ 1000) (hm : MAt w mp c a h s) (hsm : MSmall c a s) (k BB : Nat) (hk : k < 3)
    (hf : FnRow w BB mp 98 coF (.slice co 3 cc) 3) :
    Calls Tryd.prog 47 #[defV name kind (.slice po pn pc) (k : Int), .agg #[.slice eo en ec, .slice co 3 cc], va, vb] w fun e w' => Same (Blk mp) w w' ∧ CoTold name k A B mp c a h s e w' := by
  obtain ⟨hs, hd, hh⟩ := dhW_at w name kind (.slice po pn pc) (k : Int) (.slice eo en ec) (.slice co 3 cc)
  obtain ⟨ao, ac, rfl⟩ := readV_len ra
  obtain ⟨bo, bc, rfl⟩ := readV_len rb
  obtain ⟨g, cap', bm, bn, e1, hcell, hbm, hbn, ⟨cs, hg⟩, hc5, hcm⟩ := (hf.same hs (fun _ _ _ => id)).at k hk
  cases e1
  unfold maxLen at hcm
  have hkl : (k : Int) < 3 := by omega
  have HS := Lib.hid hs; have HD := Lib.hid hd; have HH := Lib.hid hh; have RA := Lib.hid (ra.same hs); have RB := Lib.hid (rb.same hs); have HM := Lib.hid (hm.same hs (fun _ _ => id)); have HM0 := Lib.hid hm; have OA := Lib.hid oka; have OB := Lib.hid okb; have SA := Lib.hid hsa; have SB := Lib.hid hsb; have HBM := Lib.hid hbm; have HBN := Lib.hid hbn; have HG := Lib.hid hg
  clear hs hd hh ra rb oka okb hsa hsb hm hf hbm hbn hg
  go_enter Tryd.func47, Tryd.ntmps47
  go_upto_region 5 with fail
  generalize hW : dhW w name kind (.slice po pn pc) (k : Int) (.slice eo en ec) (.slice (some ⟨g, 0, none⟩) 3 cc) = W at *
  try rw [show (w.alloc (.cells #[.string name, .int .i64 kind, .slice po pn pc, .int .i64 (k : Int)] 68)).alloc (.cells #[.slice eo en ec, .slice (some ⟨g, 0, none⟩) 3 cc] 76) = W from hW]
  clear hW
  obtain ⟨d0, d1, d2, d3⟩ := def_cells HD.out
  obtain ⟨g0, g1, gf⟩ := hooks_cells HH.out
  have hco := fun (W' : World) (h2 : Same (fun _ => False) W W') => hcompare_play (wh := name) (n := (k : Int)) (RA.out.same h2) (RB.out.same h2) OA.out OB.out SA.out SB.out na nb (h2.one HBM.out id) (h2.one HBN.out id) (HM.out.same h2 (fun _ _ => id)) hsm
  have HCO := Lib.hid hco
  have ng : ¬ Blk mp g := HM.out.ne_cells HG.out (by decide)
  have nlt : ∀ b, w.heap.size ≤ b → ¬ Blk mp b := fun b hb h => by have := HM0.out.lt h; omega
  clear hco d1 d2 g0 gf
  go_region_held3 (fun W' => W'.cell? ⟨w.heap.size, 0, none⟩ = some (.string name) ∧ W'.cell? ⟨w.heap.size + 1, 1, none⟩ = some (.slice (some ⟨g, 0, none⟩) 3 cc) ∧ W'.cell? ⟨w.heap.size, 3, none⟩ = some (.int .i64 (k : Int)) ∧ W'.cell? ⟨g, k, none⟩ = some (coF bm bn))
    (first | (with_reducible exact ⟨j1, j2, j3, j4⟩) | exact ⟨d0, g1, d3, hcell⟩)
    (first | (go_at_call 43; refine (HCO.out _ ((Same.refl _ W).drew)).mono ?_; rintro e w2 ⟨hs2, ht⟩; obtain ⟨x, er, rfl⟩ := ht.shape; have hs3 : Same (Blk mp) W w2 := (((Same.refl (fun _ => False) W).drew).weaken (fun _ _ h => h.elim)).trans hs2 (fun _ _ h => h); have j1 := ocell hs3 d0 (nlt _ (by simp only; omega)); have j2 := ocell hs3 g1 (nlt _ (by simp only; omega)); have j3 := ocell hs3 d3 (nlt _ (by simp only; omega)); have j4 := ocell hs3 hcell ng))
  have HT := Lib.hid ht; have HSD := Lib.hid ((HS.out.weaken (F' := Blk mp) (fun _ _ h => h.elim)).trans hs3 (fun _ _ h => h))
  clear ht hs2 hs3 j1 j2 j3 j4 d0 d3 g1 hcell ng nlt
  go_wp2_with fail
  go_ret2
  exact ⟨HSD.out, HT.out⟩
end

theorem kcompare_any {w : World} {name : ByteArray} {kind cmp : Int} {va vb hv mp : Value} {A B : List V} {c a h s : Int} {po : Option Addr} {pn pc BB : Nat} (hat : HooksAt w BB hv mp) (ra : ReadV w va A) (rb : ReadV w vb B) (oka : ∀ x ∈ A, x.ok) (okb : ∀ x ∈ B, x.ok) (hsa : ∀ y ∈ A, y.s.size ≤ 200) (hsb : ∀ y ∈ B, y.s.size ≤ 200) (na : A.length ≤ 1000) (nb : B.length ≤ 1000) (hm : MAt w mp c a h s) (hsm : MSmall c a s) :
    Calls Tryd.prog 47 #[defV name kind (.slice po pn pc) cmp, hv, va, vb] w fun e w' => Same (Blk mp) w w' ∧ KcEnd name cmp A B mp c a h s e w' := by
  obtain ⟨ve, vce, rfl, hfx, hfc⟩ := hat
  obtain ⟨eo, ec, rfl⟩ := hfx.view
  obtain ⟨co, cc, rfl⟩ := hfc.view
  by_cases h1 : cmp = -1
  · subst h1
    refine (kco_rows ra rb oka okb na nb).mono ?_
    rintro e w' ⟨h1, h2⟩
    exact ⟨h1.weaken (fun _ _ h => h.elim), Or.inl ⟨rfl, h2, hm.same h1 (fun _ _ => id)⟩⟩
  · by_cases h2 : cmp < -1 ∨ 3 ≤ cmp
    · refine (kco_none h2).mono ?_
      rintro e w' ⟨h3, h4⟩
      exact ⟨h3.weaken (fun _ _ h => h.elim), Or.inr (Or.inl ⟨h2, h4, hm.same h3 (fun _ _ => id)⟩)⟩
    · obtain ⟨k, rfl⟩ : ∃ k : Nat, cmp = k := ⟨cmp.toNat, by omega⟩
      refine (kco_hook ra rb oka okb hsa hsb na nb hm hsm k BB (by omega) hfc).mono ?_
      rintro e w' ⟨h3, h4⟩
      exact ⟨h3, Or.inr (Or.inr ⟨by omega, by omega, h4⟩)⟩

theorem good_any (n cmp : Int) (w : World) : Calls Tryd.prog 46 #[defV ⟨#[]⟩ 0 (.slice none 0 0) cmp, .int .i64 n] w fun e w' => e = .returned (.bool (decide (-1 ≤ cmp ∧ cmp < 3))) ∧ Same (fun _ => False) w w' := by
  have HS := Lib.hid ((Same.refl (fun _ => False) w).alloc (defObj ⟨#[]⟩ 0 (.slice none 0 0) cmp))
  by_cases h1 : -1 ≤ cmp
  · by_cases h2 : cmp < 3
    · rw [decide_eq_true ⟨h1, h2⟩]
      go_enter Tryd.func46, Tryd.ntmps46
      go_wp2_with fail
      refine wp_loop_rounds 1 ?_
      rw [rounds_succ]
      go_wp2_with fail
      go_ret
      exact ⟨rfl, HS.out⟩
    · rw [decide_eq_false (fun h => h2 h.2)]
      go_enter Tryd.func46, Tryd.ntmps46
      go_wp2_with fail
      refine wp_loop_rounds 1 ?_
      rw [rounds_succ]
      go_wp2_with fail
      go_ret
      exact ⟨ret_bool (decide_eq_false (by omega)), HS.out⟩
  · rw [decide_eq_false (fun h => h1 h.1)]
    go_enter Tryd.func46, Tryd.ntmps46
    go_wp2_with fail
    refine wp_loop_rounds 1 ?_
    rw [rounds_succ]
    go_wp2_with fail
    go_ret
    exact ⟨rfl, HS.out⟩

theorem refKeys_any {w : World} {name : ByteArray} {kind cmp : Int} {va vb : Value} {A B : List V} {po : Option Addr} {pn pc : Nat} (hc : -1 ≤ cmp) (ra : ReadV w va A) (rb : ReadV w vb B) (oka : ∀ x ∈ A, x.ok) (okb : ∀ x ∈ B, x.ok) (hsa : ∀ y ∈ A, y.s.size ≤ 200) (hsb : ∀ y ∈ B, y.s.size ≤ 200) (na : A.length ≤ 1000) (nb : B.length ≤ 1000) (ca : CapOk va) (cb : CapOk vb) :
    Calls Tryd.prog 49 #[defV name kind (.slice po pn pc) cmp, va, vb] w fun e w' => e = .returned (.int .i64 (if cmp = -1 then rowsV A B else cmpR cmp A B)) ∧ Same (fun _ => False) w w' := by
  have hs := (Same.refl (fun _ => False) w).alloc (defObj name kind (.slice po pn pc) cmp)
  have HS := Lib.hid hs
  have HR := Lib.hid (rows_any (ra.same hs) (rb.same hs) oka okb (by unfold maxLen; omega) (by unfold maxLen; omega))
  have HC := Lib.hid (ref7cmp_any cmp (ra.same hs) (rb.same hs) oka okb hsa hsb na nb ca cb)
  obtain ⟨ao, ac, rfl⟩ := readV_len ra
  obtain ⟨bo, bc, rfl⟩ := readV_len rb
  clear ra rb oka okb hsa hsb na nb ca cb hs
  by_cases h1 : cmp = -1
  · subst h1
    rw [if_pos rfl]
    go_enter Tryd.func49, Tryd.ntmps49
    go_wp2_with fail
    refine HR.out.mono ?_
    rintro e w' ⟨rfl, hs'⟩
    have HT := Lib.hid (HS.out.trans hs' (fun _ _ h => h))
    clear hs'
    go_wp2_with fail
    go_ret
    exact ⟨rfl, HT.out⟩
  · rw [if_neg h1]
    have h2 : ¬ cmp < 0 := by omega
    clear hc h1
    go_enter Tryd.func49, Tryd.ntmps49
    go_wp2_with fail
    refine HC.out.mono ?_
    rintro e w' ⟨rfl, hs'⟩
    have HT := Lib.hid (HS.out.trans hs' (fun _ _ h => h))
    clear hs'
    go_wp2_with fail
    go_ret
    exact ⟨rfl, HT.out⟩

end Go.Proofs.YtcbapmkipcffgaaDoor
