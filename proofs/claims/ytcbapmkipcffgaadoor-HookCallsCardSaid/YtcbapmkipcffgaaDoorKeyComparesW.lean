/-
  KeyCompares: the walk: it answers true and turns nothing that was there. Condition: the variable that errors.As reads holds the type of error.
-/
import Derived.Test.YtcbapmkipcffgaaDoorKeyCo
import Derived.Test.YtcbapmkipcffgaaDoorRunsTell
namespace Go.Proofs.YtcbapmkipcffgaaDoor
open Go.RowKit Go.Extern.Stop Go.Stop Go.Extern Go.Lib
set_option maxRecDepth 1000000

theorem HooksAt.blk {w w' : World} {B : Nat} {hv mp : Value} {c a h s : Int} (hh : HooksAt w B hv mp) (hm : MAt w mp c a h s) (hs : Same (Blk mp) w w') : HooksAt w' B hv mp := by
  obtain ⟨ve, vc, e, h1, h2⟩ := hh
  exact ⟨ve, vc, e, h1.blk hm (by decide) hs, h2.blk hm (by decide) hs⟩

theorem KcEnd.two {wh : ByteArray} {n : Int} {A B : List V} {mp : Value} {c a h s : Int} {e : Ending} {w' : World} (ht : KcEnd wh n A B mp c a h s e w') (h1 : -1 ≤ n) (h2 : n < 3) :
    (∃ X c', e = .returned (.tuple #[.int .i64 X, .nilIface]) ∧ X = (if n = -1 then rowsV A B else cmpR n A B) ∧ MAt w' mp c' a h s) ∨
    (∃ p q c', e = .returned (.tuple #[.int .i64 0, fltV p]) ∧ w'.heap[p]? = some (faultObj wh (markI q) .nilIface) ∧ w'.heap[q]? = some (markObj (1000 + a)) ∧ MAt w' mp c' a h (s + 1)) := by
  rcases ht with ⟨rfl, h3, h4⟩ | ⟨h3, _⟩ | ⟨h3, h4, ⟨_, h5, h6⟩ | ⟨_, ⟨p, q, h5, h6, h7⟩, h8⟩⟩
  · exact Or.inl ⟨_, _, h3, by rw [if_pos rfl], h4⟩
  · omega
  · exact Or.inl ⟨_, _, h5, by rw [if_neg (by omega)], h6⟩
  · exact Or.inr ⟨p, q, _, h5, h6, h7, h8⟩

theorem oneD {W w' : World} {pd : Nat} {name : ByteArray} {kind : Int} {parts : Value} {cmp : Int} (hd : W.heap[pd]? = some (defObj name kind parts cmp)) (h : Same (fun _ => False) W w') : w'.cell? ⟨pd, 0, none⟩ = some (.string name) ∧ Same (fun _ => False) W w' := ⟨(def_cells (h.obj hd id)).1, h⟩

set_option maxHeartbeats 20000000 in
theorem keyCompares_any {W : World} {name : ByteArray} {kind cmp i k a0 how : Int} {parts va vb : Value} {A B : List V} {P : List (Int × Int)} (hnm : name.size ≤ maxLen) (hpr : ReadP W parts P) (hpl : P.length ≤ maxLen) (ra : ReadV W va A) (rb : ReadV W vb B) (oka : ∀ x ∈ A, x.ok) (okb : ∀ x ∈ B, x.ok) (na : A.length ≤ maxLen) (nb : B.length ≤ maxLen) (ca : CapOk va) (cb : CapOk vb) (hg : Handle W) :
    Calls Tryd.prog 11 #[defV name kind parts cmp, va, vb, .int .i64 i, .int .i64 k, .int .i64 a0, .int .i64 how] W fun e w' => e = .returned (.bool true) ∧ Below W.heap.size W w' := by
  obtain ⟨ao, ac, rfl⟩ := readV_len ra
  obtain ⟨bo, bc, rfl⟩ := readV_len rb
  obtain ⟨po, pc, rfl, _⟩ := hpr
  have hs0 := (Same.refl (fun _ => False) W).alloc (defObj name kind (.slice po P.length pc) cmp)
  have HDB0 := Lib.hid (heap_alloc_new W (defObj name kind (.slice po P.length pc) cmp)); have HS0 := Lib.hid hs0; have HG0 := Lib.hid (hg.same hs0 id)
  have RA := Lib.hid ra; have RB := Lib.hid rb; have OA := Lib.hid oka; have OB := Lib.hid okb; have NA := Lib.hid na; have NB := Lib.hid nb; have CA := Lib.hid ca; have CB := Lib.hid cb; have HNM := Lib.hid hnm; have HPL := Lib.hid hpl
  clear ra rb oka okb na nb ca cb hnm hpl hg hs0
  go_enter Tryd.func11, Tryd.ntmps11
  go_wp2_with fail
  refine (known7_any HG0.out).mono ?_
  rintro e w1 ⟨rfl, hs1⟩
  have HD1 := Lib.hid (hs1.obj HDB0.out id); have HS1 := Lib.hid (HS0.out.trans hs1 (fun _ _ h => h)); have HG1 := Lib.hid (HG0.out.same hs1 id)
  obtain ⟨d0, d1, d2, d3⟩ := def_cells HD1.out
  clear hs1
  go_wp2_with fail
  refine (def_any HNM.out HPL.out).mono ?_
  rintro e w2 ⟨rfl, hs2⟩
  have HD2 := Lib.hid (hs2.obj HD1.out id); have HS2 := Lib.hid (HS1.out.trans hs2 (fun _ _ h => h)); have HG2 := Lib.hid (HG1.out.same hs2 id)
  clear hs2 d0 d1 d2 d3
  rcases hdf : (decide (name.size ≤ 60) && decide (P.length ≤ 8)) with _ | _
  · go_wp2_with fail
    go_ret
    exact ⟨rfl, same_to_below (SameW.of HS2.out)⟩
  clear hdf
  go_wp2_with fail
  refine (few_any (RA.out.same HS2.out) OA.out NA.out 6).mono ?_
  rintro e w2' ⟨rfl, rfl⟩
  rcases few_split (L := A) (m := 6) with hf | hf
  · rw [hf]
    clear hf
    go_wp2_with fail
    go_ret
    exact ⟨rfl, same_to_below (SameW.of HS2.out)⟩
  have hLA := few_many hf
  have hsa : ∀ y ∈ A, y.s.size ≤ 200 := by
    intro y hy
    simp only [Bool.and_eq_true, fewV, List.all_eq_true, decide_eq_true_eq] at hf
    exact hf.1 y hy
  have SA := Lib.hid hsa; have LA := Lib.hid (show A.length ≤ 6 by omega)
  rw [hf]
  clear hf hsa hLA
  go_wp2_with fail
  refine (few_any (RB.out.same HS2.out) OB.out NB.out 6).mono ?_
  rintro e w2' ⟨rfl, rfl⟩
  rcases few_split (L := B) (m := 6) with hf | hf
  · rw [hf]
    clear hf
    go_wp2_with fail
    go_ret
    exact ⟨rfl, same_to_below (SameW.of HS2.out)⟩
  have hLB := few_many hf
  have hsb : ∀ y ∈ B, y.s.size ≤ 200 := by
    intro y hy
    simp only [Bool.and_eq_true, fewV, List.all_eq_true, decide_eq_true_eq] at hf
    exact hf.1 y hy
  have SB := Lib.hid hsb; have LB := Lib.hid (show B.length ≤ 6 by omega)
  rw [hf]
  clear hf hsb hLB
  obtain ⟨_, _, _, d3⟩ := def_cells HD2.out
  go_wp2_with fail
  refine (good_any 0 cmp w2).mono ?_
  rintro e w3 ⟨rfl, hs3⟩
  have HD3 := Lib.hid (hs3.obj HD2.out id); have HS3 := Lib.hid (HS2.out.trans hs3 (fun _ _ h => h)); have HG3 := Lib.hid (HG2.out.same hs3 id)
  clear hs3 d3
  rcases hgd : decide (-1 ≤ cmp ∧ cmp < 3) with _ | _
  · go_wp2_with fail
    go_ret
    exact ⟨rfl, same_to_below (SameW.of HS3.out)⟩
  have HGD := Lib.hid (of_decide_eq_true hgd)
  clear hgd
  have hm1 := i64_and1' a0
  have HM2 := Lib.hid (heap_alloc_new w3 (meterObj 0 0 0 0))
  go_wp2_with fail
  refine (hooks_any (Or.inr ⟨_, rfl⟩) _).mono ?_
  rintro e w4 ⟨hv, rfl, hs4, ve, vce, rfl, hfx, hfc⟩
  obtain ⟨ea, ec, rfl⟩ := hfx.view
  obtain ⟨cca, cc, rfl⟩ := hfc.view
  have h34 : Same (fun _ => False) w3 w4 := ((Same.refl (fun _ => False) w3).alloc (meterObj 0 0 0 0)).trans hs4 (fun _ _ h => h)
  have HM4 := Lib.hid (hs4.obj HM2.out id)
  have HM5 := Lib.hid (((Same.refl (fun _ => False) w4).alloc (hooksObj (.slice ea 5 ec) (.slice cca 3 cc))).obj HM4.out id)
  have HK5 := Lib.hid (heap_alloc_new w4 (hooksObj (.slice ea 5 ec) (.slice cca 3 cc)))
  have H35 := Lib.hid (h34.alloc (hooksObj (.slice ea 5 ec) (.slice cca 3 cc)))
  have HA5 := Lib.hid (show HooksAt (w4.alloc (hooksObj (.slice ea 5 ec) (.slice cca 3 cc))) (w3.alloc (meterObj 0 0 0 0)).heap.size (.agg #[.slice ea 5 ec, .slice cca 3 cc]) (.pointer (some ⟨w3.heap.size, 0, none⟩)) from ⟨_, _, rfl, hfx.same ((Same.refl (fun _ => False) w4).alloc _) (fun _ _ _ => id), hfc.same ((Same.refl (fun _ => False) w4).alloc _) (fun _ _ _ => id)⟩)
  have HM34 := Lib.hid (lt_of_block HM4.out)
  clear hs4 h34 hfx hfc
  go_wp2_with fail
  generalize w4.alloc (hooksObj (.slice ea 5 ec) (.slice cca 3 cc)) = w5 at *
  refine (mset_any HM5.out (a0 % 2) how (by omega)).mono ?_
  rintro e w6 ⟨rfl, hs6, hm6⟩
  have hb : ∀ k, k = w3.heap.size → W.heap.size ≤ k := fun k e => by have := HS3.out.size; omega
  have HB := Lib.hid hb
  have HS6 := Lib.hid (SameW.trans (SameW.of (HS3.out.trans H35.out (fun _ _ h => h))) hs6 (fun k hk e => by have := HB.out k e; omega))
  have HD6 := Lib.hid (hs6.obj (H35.out.obj HD3.out id) (by have := lt_of_block HD3.out; omega))
  have HK6 := Lib.hid (hs6.obj HK5.out (by have := HM34.out; omega))
  have HM6 := Lib.hid hm6; have HG6 := Lib.hid ((HG3.out.same H35.out id).same hs6 (by have := HG3.out.lt; omega))
  have HA6 := Lib.hid (HooksAt.blk HA5.out (Or.inr ⟨_, rfl, HM5.out⟩ : MAt w5 (.pointer (some ⟨w3.heap.size, 0, none⟩)) 0 0 0 0) (hs6.weaken (F' := Blk (.pointer (some ⟨w3.heap.size, 0, none⟩))) (fun k _ e => by subst e; rfl)))
  clear hs6 hm6 hb
  obtain ⟨d0, d1, d2, d3⟩ := def_cells HD6.out
  obtain ⟨g0, g1, _⟩ := hooks_cells HK6.out
  have hbk : ∀ k, Blk (.pointer (some ⟨w3.heap.size, 0, none⟩)) k → k = w3.heap.size := fun k hk => by unfold Blk at hk; simp at hk; exact hk.symm
  have HBK := Lib.hid hbk
  have hkc := kcompare_any (name := name) (kind := kind) (cmp := cmp) (po := po) (pn := P.length) (pc := pc) (c := 0) (s := 0) HA6.out (RA.out.keep HS6.out) (RB.out.keep HS6.out) OA.out OB.out SA.out SB.out (by have := LA.out; omega) (by have := LB.out; omega) (Or.inr ⟨_, rfl, HM6.out⟩) ⟨by decide, by decide, by omega, by omega, by decide, by decide⟩
  have HKC := Lib.hid hkc
  clear hbk hkc
  go_wp2_with fail
  refine HKC.out.mono ?_
  rintro e w7 ⟨hs7, ht⟩
  have HS7 := Lib.hid (SameW.trans HS6.out hs7 (fun k hk e => by have := HBK.out k e; have := HB.out k this; omega))
  have HG7 := Lib.hid (HG6.out.same hs7 (fun e => by have := HBK.out _ e; have := HG3.out.lt; omega))
  have HD7 := Lib.hid (hs7.obj HD6.out (fun e => by have := HBK.out _ e; have := lt_of_block HD3.out; omega))
  have HK7 := Lib.hid (hs7.obj HK6.out (fun e => by have := HBK.out _ e; have := HM34.out; omega))
  have ht2 := ht.two HGD.out.1 HGD.out.2
  clear ht hs7 d0 d1 d2 d3 g0 g1
  rcases ht2 with ⟨X, c', rfl, hX, hmt⟩ | ⟨p, q, c', rfl, hf, hq, hmt⟩
  · have hmo := tells_meter hmt (Same.refl _ w7)
    obtain ⟨_, _, _, m3, _⟩ := meter_cells hmo
    obtain ⟨d0, d1, d2, d3⟩ := def_cells HD7.out
    have HKEY := Lib.hid (refKeys_any (name := name) (kind := kind) (po := po) (pn := P.length) (pc := pc) HGD.out.1 (RA.out.keep HS7.out) (RB.out.keep HS7.out) OA.out OB.out SA.out SB.out (by have := LA.out; omega) (by have := LB.out; omega) CA.out CB.out)
    rw [← hX] at HKEY
    have HX := Lib.hid hX
    clear hX hmt hmo
    go_wp2_with fail
    refine HKEY.out.mono ?_
    rintro e w8 ⟨rfl, hs8⟩
    have HS8 := Lib.hid hs8
    clear hs8 d0 d1 d2 d3 m3
    have HROW := Lib.hid (rows_any ((RA.out.keep HS7.out).same HS8.out) ((RB.out.keep HS7.out).same HS8.out) OA.out OB.out NA.out NB.out)
    have HORD := Lib.hid (fun (w' : World) (h : Same (fun _ => False) w7 w') => korder_any (ia := i) (ib := k) ((RA.out.keep HS7.out).same h) ((RB.out.keep HS7.out).same h) OA.out OB.out NA.out NB.out)
    have hent : entI (A, i) (B, k) = if rowsV A B ≠ 0 then rowsV A B else cmpI i k := rfl
    generalize rowsV A B = r at *
    go_wp2_with fail
    refine HROW.out.mono ?_
    rintro e w9 ⟨rfl, hs9⟩
    have HS9 := Lib.hid (HS8.out.trans hs9 (fun _ _ h => h))
    obtain ⟨g0, g1, _⟩ := hooks_cells (HS9.out.obj HK7.out id)
    clear hs9
    by_cases hr : r = 0
    · subst hr
      rw [if_neg (by simp)] at hent
      by_cases hik : i = k
      · subst hik
        rw [show cmpI i i = 0 by unfold cmpI; simp] at hent
        rw [hent] at HORD
        clear hent
        go_wp2_with fail
        refine (kco_none (Or.inr (by decide))).mono ?_
        rintro e w10 ⟨hs10, rfl⟩
        have HS10 := Lib.hid (HS9.out.trans hs10 (fun _ _ h => h))
        clear hs10 g0 g1
        go_wp2_with fail
        refine (HORD.out _ HS10.out).mono ?_
        rintro e w11 ⟨rfl, hs11⟩
        have HS11 := Lib.hid (HS10.out.trans hs11 (fun _ _ h => h))
        clear hs11
        go_wp2_with fail
        refine (class_errno 60 (HG7.out.same HS11.out id)).mono ?_
        rintro e w12 ⟨rfl, hs12⟩
        have HS12 := Lib.hid (HS11.out.trans hs12 (fun _ _ h => h))
        clear hs12
        go_wp2_with fail
        go_ret
        exact ⟨rfl, same_to_below (HS7.out.trans HS12.out (fun _ _ h => h.elim))⟩
      · have hik1 : (i != k) = true := by simpa using hik
        have hik2 : (i == k) = false := by simpa using hik
        by_cases hlt : i < k
        · rw [show cmpI i k = -1 by unfold cmpI; rw [if_pos hlt]] at hent
          rw [hent] at HORD
          clear hent
          go_wp2_with fail
          refine (kco_none (Or.inr (by decide))).mono ?_
          rintro e w10 ⟨hs10, rfl⟩
          have HS10 := Lib.hid (HS9.out.trans hs10 (fun _ _ h => h))
          clear hs10 g0 g1
          go_wp2_with fail
          refine (HORD.out _ HS10.out).mono ?_
          rintro e w11 ⟨rfl, hs11⟩
          have HS11 := Lib.hid (HS10.out.trans hs11 (fun _ _ h => h))
          clear hs11
          go_wp2_with fail
          refine (class_errno 60 (HG7.out.same HS11.out id)).mono ?_
          rintro e w12 ⟨rfl, hs12⟩
          have HS12 := Lib.hid (HS11.out.trans hs12 (fun _ _ h => h))
          clear hs12
          go_wp2_with fail
          go_ret
          exact ⟨rfl, same_to_below (HS7.out.trans HS12.out (fun _ _ h => h.elim))⟩
        · have hlt2 : k < i := by omega
          rw [show cmpI i k = 1 by unfold cmpI; rw [if_neg hlt, if_pos hlt2]] at hent
          rw [hent] at HORD
          clear hent
          go_wp2_with fail
          refine (kco_none (Or.inr (by decide))).mono ?_
          rintro e w10 ⟨hs10, rfl⟩
          have HS10 := Lib.hid (HS9.out.trans hs10 (fun _ _ h => h))
          clear hs10 g0 g1
          go_wp2_with fail
          refine (HORD.out _ HS10.out).mono ?_
          rintro e w11 ⟨rfl, hs11⟩
          have HS11 := Lib.hid (HS10.out.trans hs11 (fun _ _ h => h))
          clear hs11
          go_wp2_with fail
          refine (class_errno 60 (HG7.out.same HS11.out id)).mono ?_
          rintro e w12 ⟨rfl, hs12⟩
          have HS12 := Lib.hid (HS11.out.trans hs12 (fun _ _ h => h))
          clear hs12
          go_wp2_with fail
          go_ret
          exact ⟨rfl, same_to_below (HS7.out.trans HS12.out (fun _ _ h => h.elim))⟩
    · rw [if_pos hr] at hent
      rw [hent] at HORD
      have hrb : (r == 0) = false := by simpa using hr
      clear hent
      go_wp2_with fail
      refine (kco_none (Or.inr (by decide))).mono ?_
      rintro e w10 ⟨hs10, rfl⟩
      have HS10 := Lib.hid (HS9.out.trans hs10 (fun _ _ h => h))
      clear hs10 g0 g1
      go_wp2_with fail
      refine (HORD.out _ HS10.out).mono ?_
      rintro e w11 ⟨rfl, hs11⟩
      have HS11 := Lib.hid (HS10.out.trans hs11 (fun _ _ h => h))
      clear hs11
      go_wp2_with fail
      refine (class_errno 60 (HG7.out.same HS11.out id)).mono ?_
      rintro e w12 ⟨rfl, hs12⟩
      have HS12 := Lib.hid (HS11.out.trans hs12 (fun _ _ h => h))
      clear hs12
      go_wp2_with fail
      go_ret
      exact ⟨rfl, same_to_below (HS7.out.trans HS12.out (fun _ _ h => h.elim))⟩
  · have hmo := tells_meter hmt (Same.refl _ w7)
    obtain ⟨_, _, _, m3, _⟩ := meter_cells hmo
    have HST := Lib.hid (fun (w' : World) (h : Same (fun _ => False) w7 w') => struck_told (h.obj hf id) (h.obj hq id : One w' q (.int .i64 (1000 + a0 % 2)) 43) (HG7.out.same h id))
    have HWH := Lib.hid (fun (w' : World) (h : Same (fun _ => False) w7 w') => where_fault (h.obj hf id) (ok_mark _ _) (HG7.out.same h id))
    have HMK := Lib.hid (fun (w' : World) (h : Same (fun _ => False) w7 w') => mmark_any (h.obj hmo id) (by omega) (by omega))
    have c0 := (def_cells HD7.out).1
    clear hmt hmo hf hq
    go_upto_region 10 with fail
    go_region_held3 (fun w' => w'.cell? ⟨W.heap.size, 0, none⟩ = some (.string name) ∧ Same (fun _ => False) w7 w')
      ((refine oneD HD7.out ?_; first | with_reducible assumption | exact (Same.refl _ _).drew))
      (first
        | (go_at_call 14; with_reducible refine (HST.out _ ?_).mono ?_; (focus (first | with_reducible assumption | exact (Same.refl _ _).drew)); rintro e w' ⟨rfl, hs'⟩; have hT : Same (fun _ => False) w7 w' := Same.trans (by first | with_reducible assumption | exact (Same.refl _ _).drew) hs' (fun _ _ h => h))
        | (go_at_call 48; with_reducible refine (HMK.out _ ?_).mono ?_; (focus (first | with_reducible assumption | exact (Same.refl _ _).drew)); rintro e w8 ⟨rfl, rfl⟩)
        | (go_at_call 31; with_reducible refine (HWH.out _ ?_).mono ?_; (focus (first | with_reducible assumption | exact (Same.refl _ _).drew)); rintro e w' ⟨rfl, hs'⟩; have hT : Same (fun _ => False) w7 w' := Same.trans (by first | with_reducible assumption | exact (Same.refl _ _).drew) hs' (fun _ _ h => h)))
    have HT := Lib.hid hT
    clear hT hs'
    go_wp2_with fail
    go_ret
    exact ⟨rfl, same_to_below (HS7.out.trans HT.out (fun _ _ h => h.elim))⟩

end Go.Proofs.YtcbapmkipcffgaaDoor
