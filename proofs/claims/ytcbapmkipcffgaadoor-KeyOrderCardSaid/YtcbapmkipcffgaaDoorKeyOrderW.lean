/-
  KeyOrder: the walk: it answers true and turns nothing that was there. Condition: the variable that errors.As reads holds the type of error.
-/
import Derived.Test.YtcbapmkipcffgaaDoorKeyOrder
import Derived.Test.YtcbapmkipcffgaaDoorKeyKnown
import Derived.Test.YtcbapmkipcffgaaDoorKeyOpen
import Derived.Test.YtcbapmkipcffgaaDoorHookValuesW
namespace Go.Proofs.YtcbapmkipcffgaaDoor
open Go.RowKit Go.Extern.Stop Go.Stop Go.Extern Go.Lib
set_option maxRecDepth 1000000

theorem ent6 {w w' : World} {p q r : Nat} {a b c : Value} {i j k : Int} (hx : w.heap[p]? = some (entObj a i)) (hy : w.heap[q]? = some (entObj b j)) (hz : w.heap[r]? = some (entObj c k)) (h : Same (fun _ => False) w w') :
    w'.cell? ⟨p, 0, none⟩ = some a ∧ w'.cell? ⟨p, 1, none⟩ = some (.int .i64 i) ∧ w'.cell? ⟨q, 0, none⟩ = some b ∧ w'.cell? ⟨q, 1, none⟩ = some (.int .i64 j) ∧ w'.cell? ⟨r, 0, none⟩ = some c ∧ w'.cell? ⟨r, 1, none⟩ = some (.int .i64 k) ∧ Same (fun _ => False) w w' := by
  obtain ⟨e0, e1⟩ := ent_cells (h.obj hx id)
  obtain ⟨f0, f1⟩ := ent_cells (h.obj hy id)
  obtain ⟨g0, g1⟩ := ent_cells (h.obj hz id)
  exact ⟨e0, e1, f0, f1, g0, g1, h⟩

abbrev ent3W (w : World) (a b c : Value) (i j k : Int) : World := ((w.alloc (entObj a i)).alloc (entObj b j)).alloc (entObj c k)

theorem ent3_at (w : World) (a b c : Value) (i j k : Int) : (ent3W w a b c i j k).heap[w.heap.size]? = some (entObj a i) ∧ (ent3W w a b c i j k).heap[w.heap.size + 1]? = some (entObj b j) ∧ (ent3W w a b c i j k).heap[w.heap.size + 1 + 1]? = some (entObj c k) := by
  refine ⟨(((Same.refl (fun _ => False) (w.alloc (entObj a i))).alloc _).alloc _).obj (heap_alloc_new w _) id, ?_, ?_⟩
  · have h := heap_alloc_new (w.alloc (entObj a i)) (entObj b j)
    rw [show (w.alloc (entObj a i)).heap.size = w.heap.size + 1 by simp] at h
    exact ((Same.refl (fun _ => False) ((w.alloc (entObj a i)).alloc (entObj b j))).alloc _).obj h id
  · have h := heap_alloc_new ((w.alloc (entObj a i)).alloc (entObj b j)) (entObj c k)
    rwa [show ((w.alloc (entObj a i)).alloc (entObj b j)).heap.size = w.heap.size + 1 + 1 by simp] at h

set_option maxHeartbeats 8000000 in
theorem keyOrder_any {W : World} {va vb vc : Value} {A B C : List V} {ia ib ic : Int} (ra : ReadV W va A) (rb : ReadV W vb B) (rc : ReadV W vc C) (oka : ∀ x ∈ A, x.ok) (okb : ∀ x ∈ B, x.ok) (okc : ∀ x ∈ C, x.ok) (na : A.length ≤ maxLen) (nb : B.length ≤ maxLen) (nc : C.length ≤ maxLen) (hg : Handle W) :
    Calls Tryd.prog 9 #[entV va ia, entV vb ib, entV vc ic] W fun e w' => e = .returned (.bool true) ∧ Below W.heap.size W w' := by
  obtain ⟨ao, ac, rfl⟩ := readV_len ra
  obtain ⟨bo, bc, rfl⟩ := readV_len rb
  obtain ⟨co, cc, rfl⟩ := readV_len rc
  have hs0 : Same (fun _ => False) W (ent3W W (.slice ao A.length ac) (.slice bo B.length bc) (.slice co C.length cc) ia ib ic) := (((Same.refl _ W).alloc _).alloc _).alloc _
  obtain ⟨hx0, hx1, hx2⟩ := ent3_at W (.slice ao A.length ac) (.slice bo B.length bc) (.slice co C.length cc) ia ib ic
  have H0 := Lib.hid hs0; have HX0a := Lib.hid hx0; have HX1a := Lib.hid hx1; have HX2a := Lib.hid hx2; have HG0 := Lib.hid (hg.same hs0 id)
  have RA := Lib.hid ra; have RB := Lib.hid rb; have RC := Lib.hid rc; have OA := Lib.hid oka; have OB := Lib.hid okb; have OC := Lib.hid okc; have NA := Lib.hid na; have NB := Lib.hid nb; have NC := Lib.hid nc
  clear ra rb rc oka okb okc na nb nc hs0 hx0 hx1 hx2 hg
  go_enter Tryd.func9, Tryd.ntmps9
  go_wp2_with fail
  refine (known7_any HG0.out).mono ?_
  rintro e w1 ⟨rfl, hs1⟩
  have H1 := Lib.hid (H0.out.trans hs1 (fun _ _ h => h)); have HX0 := Lib.hid (hs1.obj HX0a.out id); have HX1 := Lib.hid (hs1.obj HX1a.out id); have HX2 := Lib.hid (hs1.obj HX2a.out id)
  clear hs1 HX0a HX1a HX2a
  obtain ⟨p0, p1, q0, q1, r0, r1, _⟩ := ent6 HX0.out HX1.out HX2.out (Same.refl _ _)
  go_wp2_with fail
  refine (few_any (RA.out.same H1.out) OA.out NA.out 6).mono ?_
  rintro e w1' ⟨rfl, rfl⟩
  rcases few_split (L := A) (m := 6) with hf | hf
  · rw [hf]
    clear hf
    go_wp2_with fail
    go_ret
    exact ⟨rfl, same_to_below (SameW.of H1.out)⟩
  rw [hf]
  clear hf
  go_wp2_with fail
  refine (few_any (RB.out.same H1.out) OB.out NB.out 6).mono ?_
  rintro e w1' ⟨rfl, rfl⟩
  rcases few_split (L := B) (m := 6) with hf | hf
  · rw [hf]
    clear hf
    go_wp2_with fail
    go_ret
    exact ⟨rfl, same_to_below (SameW.of H1.out)⟩
  rw [hf]
  clear hf
  go_wp2_with fail
  refine (few_any (RC.out.same H1.out) OC.out NC.out 6).mono ?_
  rintro e w1' ⟨rfl, rfl⟩
  rcases few_split (L := C) (m := 6) with hf | hf
  · rw [hf]
    clear hf
    go_wp2_with fail
    go_ret
    exact ⟨rfl, same_to_below (SameW.of H1.out)⟩
  rw [hf]
  clear hf
  have hab := fun (w' : World) (h : Same (fun _ => False) w1 w') => korder_any (ia := ia) (ib := ib) ((RA.out.same H1.out).same h) ((RB.out.same H1.out).same h) OA.out OB.out NA.out NB.out
  have hbc := fun (w' : World) (h : Same (fun _ => False) w1 w') => korder_any (ia := ib) (ib := ic) ((RB.out.same H1.out).same h) ((RC.out.same H1.out).same h) OB.out OC.out NB.out NC.out
  have hac := fun (w' : World) (h : Same (fun _ => False) w1 w') => korder_any (ia := ia) (ib := ic) ((RA.out.same H1.out).same h) ((RC.out.same H1.out).same h) OA.out OC.out NA.out NC.out
  have hba := fun (w' : World) (h : Same (fun _ => False) w1 w') => korder_any (ia := ib) (ib := ia) ((RB.out.same H1.out).same h) ((RA.out.same H1.out).same h) OB.out OA.out NB.out NA.out
  have haa := fun (w' : World) (h : Same (fun _ => False) w1 w') => korder_any (ia := ia) (ib := ia) ((RA.out.same H1.out).same h) ((RA.out.same H1.out).same h) OA.out OA.out NA.out NA.out
  have hvl := fun (w' : World) (h : Same (fun _ => False) w1 w') => vals_any ((RA.out.same H1.out).same h) ((RB.out.same H1.out).same h) OA.out OB.out NA.out NB.out
  have htr := entI_ord.trans (A, ia) (B, ib) (C, ic)
  have hxr := entI_range (A, ia) (B, ib)
  have hx0 := @entI_zero (A, ia) (B, ib)
  rw [entI_ord.anti (B, ib) (A, ia)] at hba
  rw [entI_ord.refl (A, ia)] at haa
  generalize entI (A, ia) (B, ib) = X at *
  generalize entI (B, ib) (C, ic) = Y at *
  generalize entI (A, ia) (C, ic) = Z at *
  have HAB := Lib.hid hab; have HBC := Lib.hid hbc; have HAC := Lib.hid hac; have HBA := Lib.hid hba; have HAA := Lib.hid haa; have HVL := Lib.hid hvl; have HTR := Lib.hid htr; have HX0' := Lib.hid hx0
  obtain ⟨hx1, hx2⟩ := hxr
  clear hab hbc hac hba haa hvl htr hx0
  go_upto_region 5 with fail
  go_region_held3 (fun w' => w'.cell? ⟨W.heap.size, 0, none⟩ = some (.slice ao A.length ac) ∧ w'.cell? ⟨W.heap.size, 1, none⟩ = some (.int .i64 ia) ∧ w'.cell? ⟨W.heap.size + 1, 0, none⟩ = some (.slice bo B.length bc) ∧ w'.cell? ⟨W.heap.size + 1, 1, none⟩ = some (.int .i64 ib) ∧ w'.cell? ⟨W.heap.size + 1 + 1, 0, none⟩ = some (.slice co C.length cc) ∧ w'.cell? ⟨W.heap.size + 1 + 1, 1, none⟩ = some (.int .i64 ic) ∧ Same (fun _ => False) w1 w')
    ((refine ent6 HX0.out HX1.out HX2.out ?_; first | with_reducible assumption | exact (Same.refl _ _).drew))
    (first
      | (go_at_call 40; with_reducible refine (HAB.out _ ?_).mono ?_; (focus (first | with_reducible assumption | exact (Same.refl _ _).drew)); rintro e w' ⟨rfl, hs'⟩; have hT : Same (fun _ => False) w1 w' := Same.trans (by first | with_reducible assumption | exact (Same.refl _ _).drew) hs' (fun _ _ h => h))
      | (go_at_call 40; with_reducible refine (HBC.out _ ?_).mono ?_; (focus (first | with_reducible assumption | exact (Same.refl _ _).drew)); rintro e w' ⟨rfl, hs'⟩; have hT : Same (fun _ => False) w1 w' := Same.trans (by first | with_reducible assumption | exact (Same.refl _ _).drew) hs' (fun _ _ h => h))
      | (go_at_call 40; with_reducible refine (HAC.out _ ?_).mono ?_; (focus (first | with_reducible assumption | exact (Same.refl _ _).drew)); rintro e w' ⟨rfl, hs'⟩; have hT : Same (fun _ => False) w1 w' := Same.trans (by first | with_reducible assumption | exact (Same.refl _ _).drew) hs' (fun _ _ h => h)))
  have HS0 := Lib.hid hT
  clear hT hs' p0 p1 q0 q1 r0 r1
  obtain ⟨p0, p1⟩ := ent_cells (HS0.out.obj HX0.out id)
  obtain ⟨q0, q1⟩ := ent_cells (HS0.out.obj HX1.out id)
  by_cases hX1 : X = 1
  · subst hX1
    go_wp2_with fail
    refine (HBA.out _ HS0.out).mono ?_
    rintro e w21 ⟨rfl, hs'⟩
    have HS1 := Lib.hid (HS0.out.trans hs' (fun _ _ h => h))
    obtain ⟨p0, p1⟩ := ent_cells (HS1.out.obj HX0.out id)
    obtain ⟨q0, q1⟩ := ent_cells (HS1.out.obj HX1.out id)
    clear hs'
    go_wp2_with fail
    refine (HAA.out _ HS1.out).mono ?_
    rintro e w22 ⟨rfl, hs'⟩
    have HS2 := Lib.hid (HS1.out.trans hs' (fun _ _ h => h))
    obtain ⟨p0, p1⟩ := ent_cells (HS2.out.obj HX0.out id)
    obtain ⟨q0, q1⟩ := ent_cells (HS2.out.obj HX1.out id)
    clear hs'
    go_wp2_with fail
    go_ret
    exact ⟨rfl, same_to_below (SameW.of (H1.out.trans HS2.out (fun _ _ h => h)))⟩
  by_cases hX0 : X = 0
  · subst hX0
    obtain ⟨hrow, rfl⟩ := HX0'.out rfl
    have hlen := rowsV_zero hrow
    have hdec : (decide (A.length = B.length) && decide (rowsV A B = 0)) = true := by
      have h1 : A.length = B.length := hlen
      have h2 : rowsV A B = 0 := hrow
      simp [h1, h2]
    rw [hdec] at HVL
    clear hrow hlen hdec
    by_cases hY : 0 < Y
    · skip
      go_wp2_with fail
      refine (HBA.out _ HS0.out).mono ?_
      rintro e w21 ⟨rfl, hs'⟩
      have HS1 := Lib.hid (HS0.out.trans hs' (fun _ _ h => h))
      obtain ⟨p0, p1⟩ := ent_cells (HS1.out.obj HX0.out id)
      obtain ⟨q0, q1⟩ := ent_cells (HS1.out.obj HX1.out id)
      clear hs'
      go_wp2_with fail
      refine (HAA.out _ HS1.out).mono ?_
      rintro e w22 ⟨rfl, hs'⟩
      have HS2 := Lib.hid (HS1.out.trans hs' (fun _ _ h => h))
      obtain ⟨p0, p1⟩ := ent_cells (HS2.out.obj HX0.out id)
      obtain ⟨q0, q1⟩ := ent_cells (HS2.out.obj HX1.out id)
      clear hs'
      go_wp2_with fail
      refine (HVL.out _ HS2.out).mono ?_
      rintro e w23 ⟨rfl, hs'⟩
      have HS3 := Lib.hid (HS2.out.trans hs' (fun _ _ h => h))
      obtain ⟨p0, p1⟩ := ent_cells (HS3.out.obj HX0.out id)
      obtain ⟨q0, q1⟩ := ent_cells (HS3.out.obj HX1.out id)
      clear hs'
      go_wp2_with fail
      go_ret
      exact ⟨rfl, same_to_below (SameW.of (H1.out.trans HS3.out (fun _ _ h => h)))⟩
    · have hY' : Y ≤ 0 := by omega
      have hZ : Z ≤ 0 := HTR.out (by omega) hY'
      go_wp2_with fail
      refine (HBA.out _ HS0.out).mono ?_
      rintro e w21 ⟨rfl, hs'⟩
      have HS1 := Lib.hid (HS0.out.trans hs' (fun _ _ h => h))
      obtain ⟨p0, p1⟩ := ent_cells (HS1.out.obj HX0.out id)
      obtain ⟨q0, q1⟩ := ent_cells (HS1.out.obj HX1.out id)
      clear hs'
      go_wp2_with fail
      refine (HAA.out _ HS1.out).mono ?_
      rintro e w22 ⟨rfl, hs'⟩
      have HS2 := Lib.hid (HS1.out.trans hs' (fun _ _ h => h))
      obtain ⟨p0, p1⟩ := ent_cells (HS2.out.obj HX0.out id)
      obtain ⟨q0, q1⟩ := ent_cells (HS2.out.obj HX1.out id)
      clear hs'
      go_wp2_with fail
      refine (HVL.out _ HS2.out).mono ?_
      rintro e w23 ⟨rfl, hs'⟩
      have HS3 := Lib.hid (HS2.out.trans hs' (fun _ _ h => h))
      obtain ⟨p0, p1⟩ := ent_cells (HS3.out.obj HX0.out id)
      obtain ⟨q0, q1⟩ := ent_cells (HS3.out.obj HX1.out id)
      clear hs'
      go_wp2_with fail
      go_ret
      exact ⟨rfl, same_to_below (SameW.of (H1.out.trans HS3.out (fun _ _ h => h)))⟩
  have hXm : X = -1 := by omega
  subst hXm
  by_cases hY : 0 < Y
  · skip
    go_wp2_with fail
    refine (HBA.out _ HS0.out).mono ?_
    rintro e w21 ⟨rfl, hs'⟩
    have HS1 := Lib.hid (HS0.out.trans hs' (fun _ _ h => h))
    obtain ⟨p0, p1⟩ := ent_cells (HS1.out.obj HX0.out id)
    obtain ⟨q0, q1⟩ := ent_cells (HS1.out.obj HX1.out id)
    clear hs'
    go_wp2_with fail
    refine (HAA.out _ HS1.out).mono ?_
    rintro e w22 ⟨rfl, hs'⟩
    have HS2 := Lib.hid (HS1.out.trans hs' (fun _ _ h => h))
    obtain ⟨p0, p1⟩ := ent_cells (HS2.out.obj HX0.out id)
    obtain ⟨q0, q1⟩ := ent_cells (HS2.out.obj HX1.out id)
    clear hs'
    go_wp2_with fail
    go_ret
    exact ⟨rfl, same_to_below (SameW.of (H1.out.trans HS2.out (fun _ _ h => h)))⟩
  · have hY' : Y ≤ 0 := by omega
    have hZ : Z ≤ 0 := HTR.out (by omega) hY'
    go_wp2_with fail
    refine (HBA.out _ HS0.out).mono ?_
    rintro e w21 ⟨rfl, hs'⟩
    have HS1 := Lib.hid (HS0.out.trans hs' (fun _ _ h => h))
    obtain ⟨p0, p1⟩ := ent_cells (HS1.out.obj HX0.out id)
    obtain ⟨q0, q1⟩ := ent_cells (HS1.out.obj HX1.out id)
    clear hs'
    go_wp2_with fail
    refine (HAA.out _ HS1.out).mono ?_
    rintro e w22 ⟨rfl, hs'⟩
    have HS2 := Lib.hid (HS1.out.trans hs' (fun _ _ h => h))
    obtain ⟨p0, p1⟩ := ent_cells (HS2.out.obj HX0.out id)
    obtain ⟨q0, q1⟩ := ent_cells (HS2.out.obj HX1.out id)
    clear hs'
    go_wp2_with fail
    go_ret
    exact ⟨rfl, same_to_below (SameW.of (H1.out.trans HS2.out (fun _ _ h => h)))⟩

end Go.Proofs.YtcbapmkipcffgaaDoor
