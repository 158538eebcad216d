/-
  KeyTells: the walk: it answers true and turns nothing that was there. Condition: the variable that errors.As reads holds the type of error.
-/
import Derived.Test.YtcbapmkipcffgaaDoorKeyTellsM
import Derived.Test.YtcbapmkipcffgaaDoorFaultMk
namespace Go.Proofs.YtcbapmkipcffgaaDoor
open Go.RowKit Go.Extern.Stop Go.Stop Go.Extern Go.Lib
set_option maxRecDepth 1000000

theorem take_at {P : Program} {ops : Array Oper} {Q : Exit → Act → World → Prop} {md : Region.Mode} {S : World → Prop} {i d : Nat} {o : Op} {ty : TypeId} {ps : String} {af : Array Edge} {g : Option (Nat × Bool)} {v : Value} {fuel : Nat} {listed : Array Bool} {a : Act} {w : World} (hi : ops[i]? = some ⟨some d, o, ty, ps, af, g⟩)
    (hs : Region.noSelect ops = true) (hf : Region.free md ops listed i = true) (hr : (Region.ready md ops listed).contains i = true)
    (hQ : ∀ c a w, Q (.panic c) (a.put (some d) v) w → Q (.panic c) a w) (hy : YieldsIf P ops S ⟨some d, o, ty, ps, af, g⟩ v a) (hS : S w)
    (h : wpAnyH P md ops Q S fuel (listed.setIfInBounds i true) (a.put (some d) v) w) : wpAnyH P md ops Q S (fuel + 1) listed a w :=
  wpAnyH_take (oi := ⟨some d, o, ty, ps, af, g⟩) hi hs hf hr hQ hy hS h

theorem ok_mark (q : Nat) (pan : Value) : FaultOk (markI q) pan := Or.inl ⟨_, _, rfl, fun tgt a w => tw_miss_mk _ tgt a w⟩

theorem class_nil' (w : World) : Calls Tryd.prog 30 #[.nilIface] w fun e w' => e = .returned (.int .i64 0) ∧ Same (fun _ => False) w w' :=
  (class_nil w).mono fun _ _ ⟨h1, h2⟩ => ⟨h1, h2 ▸ Same.refl _ _⟩

theorem tuple_inj2 {a b c d : Value} (h : Ending.returned (.tuple #[a, b]) = .returned (.tuple #[c, d])) : c = a ∧ d = b := by
  simp only [Ending.returned.injEq, Value.tuple.injEq, Array.mk.injEq, List.cons.injEq, and_true] at h
  exact ⟨h.1.symm, h.2.symm⟩

theorem OfEnd.shape {wh : ByteArray} {mp : Value} {a h s : Int} {B : Nat} {o : KeyOut} {e : Ending} {w' : World} (ht : OfEnd wh mp a h s B o e w') : ∃ ko kn kc er, e = .returned (.tuple #[.slice ko kn kc, er]) ∧ (o.bad ≠ 0 → kn = 0) := by
  cases o with
  | keys l c =>
    obtain ⟨⟨v, rfl, ho⟩, _⟩ := ht
    obtain ⟨ko, kc, rfl⟩ := readV_len (ReadV.own ho)
    exact ⟨_, _, _, _, rfl, fun h => absurd rfl h⟩
  | noKey c => exact ⟨_, _, _, _, ht.1, fun _ => rfl⟩
  | noValue c => obtain ⟨⟨p, h, _⟩, _⟩ := ht; exact ⟨_, _, _, _, h, fun _ => rfl⟩
  | mark c => obtain ⟨⟨p, q, h, _⟩, _⟩ := ht; exact ⟨_, _, _, _, h, fun _ => rfl⟩

theorem OfEnd.three {wh : ByteArray} {mp : Value} {a h s : Int} {B : Nat} {o : KeyOut} {e : Ending} {w' : World} (ht : OfEnd wh mp a h s B o e w') :
    (∃ l c, o = .keys l c ∧ ∃ v, e = .returned (.tuple #[v, .nilIface]) ∧ w'.ownsRow B 38 4 v l.length (vals l) ∧ MAt w' mp c a h s) ∨
    (o.bad = 60 ∧ e = .returned (.tuple #[.slice none 0 0, errN 60]) ∧ MAt w' mp o.calls a h s) ∨
    (o.bad = 50 ∧ ∃ p err s', e = .returned (.tuple #[.slice none 0 0, fltV p]) ∧ w'.heap[p]? = some (faultObj wh err .nilIface) ∧ FaultOk err .nilIface ∧ MAt w' mp o.calls a h s') := by
  cases o with
  | keys l c => obtain ⟨⟨v, h1, h2⟩, h3⟩ := ht; exact Or.inl ⟨l, c, rfl, v, h1, h2, h3⟩
  | noKey c => exact Or.inr (Or.inl ⟨rfl, ht.1, ht.2⟩)
  | noValue c => obtain ⟨⟨p, h1, h2⟩, h3⟩ := ht; exact Or.inr (Or.inr ⟨rfl, p, _, s, h1, h2, ok_errno 10 _, h3⟩)
  | mark c => obtain ⟨⟨p, q, h1, h2, _⟩, h3⟩ := ht; exact Or.inr (Or.inr ⟨rfl, p, _, s + 1, h1, h2, ok_mark _ _, h3⟩)

theorem tells_meter {w7 wr : World} {m : Nat} {c a h s : Int} (hm : MAt w7 (.pointer (some ⟨m, 0, none⟩)) c a h s) (hs : Same (fun _ => False) w7 wr) : wr.heap[m]? = some (meterObj c a h s) := by
  rcases hm with h | ⟨k, h, hm⟩
  · cases h
  · cases h
    exact hs.obj hm id

theorem tells_vals {wr w' w10 : World} {B1 B2 : Nat} {kv u : Value} {L l : List V} {P : List (Int × Int)} (hs : Same (fun _ => False) w' w10) (hj : Same (fun _ => False) wr w') (hk : wr.ownsRow B1 38 4 kv l.length (vals l)) (hu : w10.ownsRow B2 38 4 u P.length (vals (P.map (refPart L)))) (hl : l = [] ++ P.map (refPart L))
    (hin : ∀ p ∈ P, PartIn L 5 p) (hok : ∀ y ∈ L, y.ok) (hsz : ∀ y ∈ L, y.s.size ≤ 200) (hp : P.length ≤ 1000) :
    Calls Tryd.prog 19 #[kv, u] w10 fun e w11 => e = .returned (.bool true) ∧ Same (fun _ => False) w10 w11 := by
  rw [List.nil_append] at hl
  subst hl
  refine vals_self (A := P.map (refPart L)) ((ReadV.own hk).same (hj.trans hs (fun _ _ h => h))) (ReadV.own (by rw [List.length_map]; exact hu)) (fun y hy => ?_) (by rw [List.length_map]; unfold maxLen; omega)
  simp only [List.mem_map] at hy
  obtain ⟨p, hp, rfl⟩ := hy
  unfold refPart
  split
  · rename_i h0
    rcases hin p hp with h | h
    · have hl : p.1.toNat < L.length := by omega
      rw [List.getD_eq_getElem?_getD, List.getElem?_eq_getElem hl, Option.getD_some]
      exact hok _ (List.getElem_mem hl)
    · omega
  · exact exV_ok hok hsz

set_option maxHeartbeats 20000000 in
theorem keyTells_any {W : World} {name : ByteArray} {kind cmp a0 how : Int} {parts v : Value} {L : List V} {P : List (Int × Int)} (hnm : name.size ≤ maxLen) (hpr : ReadP W parts P) (hpl : P.length ≤ maxLen) (hr : ReadV W v L) (hok : ∀ x ∈ L, x.ok) (hn : L.length ≤ maxLen) (hg : Handle W) :
    Calls Tryd.prog 7 #[defV name kind parts cmp, v, .int .i64 a0, .int .i64 how] W fun e w' => e = .returned (.bool true) ∧ Below W.heap.size W w' := by
  obtain ⟨vo, vc, rfl⟩ := readV_len hr
  have HP := Lib.hid hpr
  obtain ⟨po, pc, rfl, _⟩ := hpr
  have hs0 := (Same.refl (fun _ => False) W).alloc (defObj name kind (.slice po P.length pc) cmp)
  have HDB0 := Lib.hid (heap_alloc_new W (defObj name kind (.slice po P.length pc) cmp)); have HS0 := Lib.hid hs0; have HG0 := Lib.hid (hg.same hs0 id)
  have HR := Lib.hid hr; have HOK := Lib.hid hok; have HN := Lib.hid hn; have HNM := Lib.hid hnm; have HPL := Lib.hid hpl
  clear hr hok hn hnm hpl hg hs0
  go_enter Tryd.func7, Tryd.ntmps7
  go_wp2_with fail
  refine (known7_any HG0.out).mono ?_
  rintro e w1 ⟨rfl, hs1⟩
  have HD1 := Lib.hid (hs1.obj HDB0.out id); have HS1 := Lib.hid (HS0.out.trans hs1 (fun _ _ h => h)); have HG1 := Lib.hid (HG0.out.same hs1 id)
  obtain ⟨d0, d1, d2, d3⟩ := def_cells HD1.out
  clear hs1
  go_wp2_with fail
  refine (def_any HNM.out HPL.out).mono ?_
  rintro e w2 ⟨rfl, hs2⟩
  have HD2 := Lib.hid (hs2.obj HD1.out id); have HS2 := Lib.hid (HS1.out.trans hs2 (fun _ _ h => h)); have HG2 := Lib.hid (HG1.out.same hs2 id)
  clear hs2 d0 d1 d2 d3
  rcases hdf : (decide (name.size ≤ 60) && decide (P.length ≤ 8)) with _ | _
  · go_wp2_with fail
    go_ret
    exact ⟨rfl, same_to_below (SameW.of HS2.out)⟩
  have hp8 : P.length ≤ 8 := by simp only [Bool.and_eq_true, decide_eq_true_eq] at hdf; exact hdf.2
  have HP8 := Lib.hid hp8
  clear hdf
  go_wp2_with fail
  refine (few_any (HR.out.same HS2.out) HOK.out HN.out 10).mono ?_
  rintro e w2' ⟨rfl, rfl⟩
  rcases few_split (L := L) (m := 10) with hf | hf
  · rw [hf]
    clear hf
    go_wp2_with fail
    go_ret
    exact ⟨rfl, same_to_below (SameW.of HS2.out)⟩
  have hL := few_many hf
  have hsz : ∀ y ∈ L, y.s.size ≤ 200 := by
    intro y hy
    simp only [Bool.and_eq_true, fewV, List.all_eq_true, decide_eq_true_eq] at hf
    exact hf.1 y hy
  have HSZ := Lib.hid hsz; have HL10 := Lib.hid (show L.length ≤ 10 by omega)
  rw [hf]
  clear hf hsz hL
  have hm3 := i64_and3 a0
  have HM2 := Lib.hid (heap_alloc_new w2 (meterObj 0 0 0 0))
  go_wp2_with fail
  refine (hooks_any (Or.inr ⟨_, rfl⟩) _).mono ?_
  rintro e w3 ⟨hv, rfl, hs3, ve, vce, rfl, hfx, hfc⟩
  obtain ⟨ea, ec, rfl⟩ := hfx.view
  obtain ⟨ca, cc, rfl⟩ := hfc.view
  have h23 : Same (fun _ => False) w2 w3 := ((Same.refl (fun _ => False) w2).alloc (meterObj 0 0 0 0)).trans hs3 (fun _ _ h => h)
  have HM3 := Lib.hid (hs3.obj HM2.out id); have H23 := Lib.hid h23
  have HFX := Lib.hid hfx; have HFC := Lib.hid hfc
  clear hs3 h23 hfx hfc
  have hm4 := ((Same.refl (fun _ => False) w3).alloc (hooksObj (.slice ea 5 ec) (.slice ca 3 cc))).obj HM3.out id
  have HM4 := Lib.hid hm4
  have HK4 := Lib.hid (heap_alloc_new w3 (hooksObj (.slice ea 5 ec) (.slice ca 3 cc)))
  have H24 := Lib.hid (H23.out.alloc (hooksObj (.slice ea 5 ec) (.slice ca 3 cc)))
  have HA4 := Lib.hid (show HooksAt (w3.alloc (hooksObj (.slice ea 5 ec) (.slice ca 3 cc))) (w2.alloc (meterObj 0 0 0 0)).heap.size (.agg #[.slice ea 5 ec, .slice ca 3 cc]) (.pointer (some ⟨w2.heap.size, 0, none⟩)) from ⟨_, _, rfl, HFX.out.same ((Same.refl (fun _ => False) w3).alloc _) (fun _ _ _ => id), HFC.out.same ((Same.refl (fun _ => False) w3).alloc _) (fun _ _ _ => id)⟩)
  have hw34 : w3.heap.size < (w3.alloc (hooksObj (.slice ea 5 ec) (.slice ca 3 cc))).heap.size := by simp
  have HW34 := Lib.hid hw34
  clear hm4 hw34
  go_wp2_with fail
  generalize w3.alloc (hooksObj (.slice ea 5 ec) (.slice ca 3 cc)) = w4 at *
  refine (mset_any HM4.out (a0 % 4) how (by omega)).mono ?_
  rintro e w5 ⟨rfl, hs5, hm5⟩
  have hM3 : w2.heap.size < w3.heap.size := lt_of_block HM3.out
  have hb5 : ∀ k, k = w2.heap.size → W.heap.size ≤ k := fun k e => by have := HS2.out.size; omega
  have HS5 := Lib.hid (SameW.trans (SameW.of (HS2.out.trans H24.out (fun _ _ h => h))) hs5 (fun k hk e => by have := hb5 k e; omega))
  have HD5 := Lib.hid (hs5.obj (H24.out.obj HD2.out id) (by have := lt_of_block HD2.out; omega))
  have HK5 := Lib.hid (hs5.obj HK4.out (by omega))
  have HM5 := Lib.hid hm5; have HG5 := Lib.hid ((HG2.out.same H24.out id).same hs5 (by have := HG2.out.lt; omega))
  have HA5 := Lib.hid (HkAt.blk (Or.inl ⟨rfl, _, HA4.out⟩) (Or.inr ⟨_, rfl, HM4.out⟩ : MAt w4 (.pointer (some ⟨w2.heap.size, 0, none⟩)) 0 0 0 0) (hs5.weaken (F' := Blk (.pointer (some ⟨w2.heap.size, 0, none⟩))) (fun k _ e => by subst e; rfl)))
  have HM35 := Lib.hid (show w2.heap.size < w5.heap.size from lt_of_block hm5)
  clear hs5 hm5 hM3
  go_wp2_with fail
  refine (copy_any (HR.out.keep HS5.out) (by have := HL10.out; omega)).mono ?_
  rintro e w6 ⟨t, rfl, ho6, hs6⟩
  obtain ⟨tto, tc, rfl⟩ := readV_len (ReadV.own ho6)
  have HO6 := Lib.hid ho6; have HS6 := Lib.hid (HS5.out.trans hs6 (fun _ _ h => h.elim)); have HM6 := Lib.hid (hs6.obj HM5.out id); have HD6 := Lib.hid (hs6.obj HD5.out id); have HK6 := Lib.hid (hs6.obj HK5.out id); have HG6 := Lib.hid (HG5.out.same hs6 id); have HA6 := Lib.hid (HA5.out.same hs6)
  have HS56 := Lib.hid hs6.size
  clear ho6 hs6
  obtain ⟨d0, d1, d2, d3⟩ := def_cells HD6.out
  obtain ⟨g0, g1, _⟩ := hooks_cells HK6.out
  have hbk : ∀ k, Blk (.pointer (some ⟨w2.heap.size, 0, none⟩)) k → k = w2.heap.size := fun k hk => by unfold Blk at hk; simp at hk; exact hk.symm
  have HBK := Lib.hid hbk
  have hof := of_any (name := name) (kind := kind) (cmp := cmp) (parts := .slice po P.length pc) (vs := .slice vo L.length vc) (L := L) (P := P) (c := 0) (s := 0) HA6.out (fun w' h => HR.out.keep (SameW.trans HS6.out h (fun k hk e => by have := HBK.out k e; have := hb5 k this; omega))) (fun w' h => HP.out.keep (SameW.trans HS6.out h (fun k hk e => by have := HBK.out k e; have := hb5 k this; omega))) HOK.out HSZ.out (by have := HL10.out; omega) (by have := HP8.out; omega) (Or.inr ⟨_, rfl, HM6.out⟩) ⟨by decide, by decide, by omega, by omega, by decide, by decide⟩ (by decide)
  have HOF := Lib.hid hof
  clear hbk hof
  go_wp2_with fail
  refine HOF.out.mono ?_
  rintro e w7 ⟨hs7, ht⟩
  obtain ⟨ko, kn, kc, er, rfl, hko⟩ := ht.shape
  have HE := Lib.hid ht; have HKO := Lib.hid hko
  have HS7 := Lib.hid (SameW.trans HS6.out hs7 (fun k hk e => by have := HBK.out k e; have := hb5 k this; omega))
  have HO7 := Lib.hid (hs7.row HO6.out (fun j hj e => by have := HBK.out j e; have := (HO6.out.lt j hj).1; have := HM35.out; omega))
  have HG7 := Lib.hid (HG6.out.same hs7 (fun e => by have := HBK.out _ e; have := HG2.out.lt; omega))
  have HD7 := Lib.hid (hs7.obj HD6.out (fun e => by have := HBK.out _ e; have := lt_of_block HD2.out; omega))
  clear ht hko hs7 d0 d1 d2 d3 g0 g1
  go_wp2_with fail
  refine (vals_self (ReadV.own HO7.out) (HR.out.keep HS7.out) HOK.out HN.out).mono ?_
  rintro e w8 ⟨rfl, hs8⟩
  have HS78 := Lib.hid hs8; have HS8 := Lib.hid (HS7.out.trans hs8 (fun _ _ h => h.elim)); have HG8 := Lib.hid (HG7.out.same hs8 id)
  have HDB := Lib.hid (hs8.obj HD7.out id)
  have HS18 := Lib.hid (Same.refl (fun _ => False) w8)
  have HP8b := HP8.out
  clear hs8 hb5 hp8
  go_wp2_with fail
  go_loopg [16, 14, 15] (P.length + 1) (fun r i cl bd wr => ∃ (k : Nat) (c b : Int), k + r = P.length + 1 ∧ i = .int .i64 k ∧ cl = .int .i64 c ∧ bd = .int .i64 b ∧ k ≤ P.length ∧ 0 ≤ c ∧ c ≤ k ∧ Scan L 5 (.pointer (some ⟨w2.heap.size, 0, none⟩)) (a0 % 4) P (keyOut L 5 (.pointer (some ⟨w2.heap.size, 0, none⟩)) (a0 % 4) P [] 0) k c b ∧ Same (fun _ => False) w8 wr)
  case atStart => exact ⟨0, 0, 0, by omega, rfl, rfl, rfl, by omega, by omega, by omega, Scan.start, Same.refl _ _⟩
  case round =>
    obtain ⟨k, cl, b, hk, rfl, rfl, rfl, hkn, hc0, hck, hsc, hs⟩ := hrel
    have HK := Lib.hid hk; have HSC := Lib.hid hsc
    obtain ⟨x0, x1, x2, x3, _⟩ := dcells HDB.out hs
    have lh := lt_of_block (hs.obj HDB.out id)
    clear hk hsc x0 x1 x3
    by_cases hlt : k < P.length
    · have hlt' : (k : Int) < (P.length : Int) := by omega
      by_cases hb : b = 0
      · subst hb
        obtain ⟨F, H, hpp⟩ : ∃ F H, P[k]? = some (F, H) := ⟨P[k].1, P[k].2, List.getElem?_eq_getElem hlt⟩
        have hpr := HP.out.keep (HS8.out.trans hs (fun _ _ h => h.elim))
        obtain ⟨po', pc', e1, hpc⟩ := hpr
        cases e1
        obtain ⟨pb, off, rfl, hbl, p0, p1⟩ := hpc k (F, H) hpp
        have HPP := Lib.hid hpp
        have HSA := Lib.hid (hs.alloc (.cells #[.int .i64 F, .int .i64 H] 81))
        have HVR := Lib.hid ((HR.out.keep (HS8.out.trans hs (fun _ _ h => h.elim))).same ((Same.refl (fun _ => False) wr).alloc (.cells #[.int .i64 F, .int .i64 H] 81)))
        simp only at p0 p1
        clear hpc hpp hs
        by_cases hF1 : (L.length : Int) ≤ F
        · go_wp2_with fail
          go_roundg (gk - 1)
          case measure => have := HK.out; omega
          case rel => exact ⟨k + 1, cl, 60, by have := HK.out; omega, by go_num, rfl, rfl, by omega, by omega, by omega, HSC.out.noKey HPP.out (by unfold PartIn; simp only; omega), HSA.out⟩
        have hF1' : F < (L.length : Int) := by omega
        by_cases hF2 : F < -1
        · go_wp2_with fail
          go_roundg (gk - 1)
          case measure => have := HK.out; omega
          case rel => exact ⟨k + 1, cl, 60, by have := HK.out; omega, by go_num, rfl, rfl, by omega, by omega, by omega, HSC.out.noKey HPP.out (by unfold PartIn; simp only; omega), HSA.out⟩
        have hF2' : -1 ≤ F := by omega
        by_cases hF3 : F = -1
        · subst hF3
          by_cases hH1 : H < 0
          · go_wp2_with fail
            go_roundg (gk - 1)
            case measure => have := HK.out; omega
            case rel => exact ⟨k + 1, cl, 60, by have := HK.out; omega, by go_num, rfl, rfl, by omega, by omega, by omega, HSC.out.noKey HPP.out (by unfold PartIn; simp only; omega), HSA.out⟩
          have hH1' : 0 ≤ H := by omega
          by_cases hH2 : 5 ≤ H
          · go_wp2_with fail
            go_roundg (gk - 1)
            case measure => have := HK.out; omega
            case rel => exact ⟨k + 1, cl, 60, by have := HK.out; omega, by go_num, rfl, rfl, by omega, by omega, by omega, HSC.out.noKey HPP.out (by unfold PartIn; simp only; omega), HSA.out⟩
          have hH2' : H < 5 := by omega
          by_cases hst : cl + 1 = a0 % 4
          · have hst' : (cl + 1 == a0 % 4) = true := by simpa using hst
            have HST := Lib.hid hst
            clear hst
            go_wp2_with fail
            go_roundg (gk - 1)
            case measure => have := HK.out; omega
            case rel => exact ⟨k + 1, cl + 1, 50, by have := HK.out; omega, by go_num, by go_num, rfl, by omega, by omega, by omega, HSC.out.hook HPP.out ⟨rfl, by simp only; omega, by simp only; omega⟩ true ⟨fun _ => Or.inl ⟨by simp, by have := HST.out; omega, HST.out⟩, fun _ => rfl⟩, HSA.out⟩
          have hst' : (cl + 1 == a0 % 4) = false := by simpa using hst
          have HST := Lib.hid hst
          clear hst
          go_wp2_with fail
          refine (ref7ex_any H HVR.out HOK.out HSZ.out (by have := HL10.out; omega)).mono ?_
          rintro e w9 ⟨rfl, hs9⟩
          have HS9 := Lib.hid (HSA.out.trans hs9 (fun _ _ h => h))
          clear hs9
          have hok9 := exV_ok (n := H) HOK.out HSZ.out
          have HOK9 := Lib.hid hok9
          clear hok9
          go_wp2_with fail
          refine (ris_any _ HOK9.out _).mono ?_
          rintro e w10 ⟨rfl, rfl⟩
          have HSB := Lib.hid (HS9.out.alloc (exV H L).obj)
          rcases hiv : isV (exV H L) with _ | _
          · have HIV := Lib.hid hiv
            clear hiv
            go_wp2_with fail
            go_roundg (gk - 1)
            case measure => have := HK.out; omega
            case rel => exact ⟨k + 1, cl + 1, 50, by have := HK.out; omega, by go_num, by go_num, rfl, by omega, by omega, by omega, HSC.out.hook HPP.out ⟨rfl, by simp only; omega, by simp only; omega⟩ true ⟨fun _ => Or.inr HIV.out, fun _ => rfl⟩, HSB.out⟩
          · have HIV := Lib.hid hiv
            clear hiv
            go_wp2_with fail
            go_roundg (gk - 1)
            case measure => have := HK.out; omega
            case rel => exact ⟨k + 1, cl + 1, 0, by have := HK.out; omega, by go_num, by go_num, rfl, by omega, by omega, by omega, HSC.out.hook HPP.out ⟨rfl, by simp only; omega, by simp only; omega⟩ false ⟨fun h => (nomatch h), fun h => h.elim (fun h => absurd h.2.2 HST.out) (fun h => by rw [HIV.out] at h; cases h)⟩, HSB.out⟩
        · have hF3' : (F == -1) = false := by simpa using hF3
          have hF0 : 0 ≤ F := by omega
          go_wp2_with fail
          go_roundg (gk - 1)
          case measure => have := HK.out; omega
          case rel => exact ⟨k + 1, cl, 0, by have := HK.out; omega, by go_num, rfl, rfl, by omega, by omega, by omega, HSC.out.field HPP.out ⟨by simp only; omega, by simp only; omega⟩, HSA.out⟩
      · have hb' : (b == 0) = false := by simpa using hb
        have hb2 : ¬ b = 0 := hb
        have HFIN := Lib.hid (HSC.out.fin (Or.inl hb))
        have HGR := HG8
        go_upto_region 23 with fail
        clear x2 hlt' hb'
        obtain ⟨hbad, hcalls⟩ := HFIN.out
        have HSR := Lib.hid (HS8.out.trans hs (fun _ _ h => h.elim))
        have hw7 : Same (fun _ => False) w7 wr := HS78.out.trans hs (fun _ _ h => h)
        have HW7 := Lib.hid hw7
        clear hw7
        have hE := HE.out
        rcases hE.three with ⟨l, c, hO, v, hkv, hown, hmt⟩ | ⟨hO, hkv, hmt⟩ | ⟨hO, p, err, s', hkv, hf, hfo, hmt⟩
        · rw [hO] at hbad
          exact absurd hbad.symm hb
        · skip
          have HO := Lib.hid hO
          rw [hO] at hbad
          subst hbad
          rw [hcalls] at hmt
          obtain ⟨hk1, rfl⟩ := tuple_inj2 hkv
          cases hk1
          have HSRD := Lib.hid (HS18.out.trans hs (fun _ _ h => h))
          have hmr := tells_meter hmt HW7.out
          obtain ⟨m0, _, _, _, _⟩ := meter_cells hmr
          have c0 := (dcells HDB.out HSRD.out).1
          have HCL := Lib.hid (fun (w' : World) (h : Same (fun _ => False) wr w') => class_errno 60 ((HGR.out.same hs id).same h id))
          clear hmt hmr hO hs hkv
          refine wp_region_held_drew (S := (fun w' => w'.cell? ⟨W.heap.size, 0, none⟩ = some (.string name) ∧ w'.cell? ⟨w2.heap.size, 0, none⟩ = some (.int .i64 cl) ∧ Same (fun _ => False) wr w')) (by kernel_rfl) ⟨c0, m0, (Same.refl _ _).drew⟩ (fun hHeld => ?_)
          refine take_at (i := 0) (v := ?_) rfl (by kernel_rfl) (by kernel_rfl) (by kernel_rfl) (fun _ _ _ h => h) (Or.inl ⟨by kernel_rfl, ?_⟩) (by assumption) ?_
          rotate_left
          focus (intro w hSw; (try dsimp only at hSw); go_simp; try with_reducible rfl)
          try simp only [Act.put, List.setIfInBounds_toArray, List.set_cons_zero, List.set_cons_succ]
          refine take_at (i := 2) (v := ?_) rfl (by kernel_rfl) (by kernel_rfl) (by kernel_rfl) (fun _ _ _ h => h) (Or.inl ⟨by kernel_rfl, ?_⟩) (by assumption) ?_
          rotate_left
          focus (intro w hSw; (try dsimp only at hSw); go_simp; try with_reducible rfl)
          try simp only [Act.put, List.setIfInBounds_toArray, List.set_cons_zero, List.set_cons_succ]
          refine wpAnyH_ready (rs := [1]) (by kernel_rfl) (by simp) ?_
          refine AllReadyH.cons rfl (fun K hK => ?_) AllReadyH.nil
          go_simp
          go_at_call 30
          refine (HCL.out _ ((Same.refl _ _).drew)).mono ?_
          rintro e w' ⟨rfl, hs'⟩
          have j3 : Same (fun _ => False) wr w' := Same.trans ((Same.refl _ _).drew) hs' (fun _ _ h => h)
          have j1 := ocell (a := ⟨W.heap.size, 0, none⟩) j3 c0 id
          have j2 := ocell (a := ⟨w2.heap.size, 0, none⟩) j3 m0 id
          try (go_wp2_with fail)
          refine hK.out _ _ ⟨j1, j2, j3⟩ (fun hHeld => ?_)
          clear hK K
          try simp only [Act.put, List.setIfInBounds_toArray, List.set_cons_zero, List.set_cons_succ]
          refine take_at (i := 3) (v := ?_) rfl (by kernel_rfl) (by kernel_rfl) (by kernel_rfl) (fun _ _ _ h => h) (Or.inl ⟨by kernel_rfl, ?_⟩) (by assumption) ?_
          rotate_left
          focus (intro w hSw; (try dsimp only at hSw); go_simp; try with_reducible rfl)
          try simp only [Act.put, List.setIfInBounds_toArray, List.set_cons_zero, List.set_cons_succ]
          refine take_at (i := 4) (v := ?_) rfl (by kernel_rfl) (by kernel_rfl) (by kernel_rfl) (fun _ _ _ h => h) (Or.inl ⟨by kernel_rfl, ?_⟩) (by assumption) ?_
          rotate_left
          focus (intro w hSw; (try dsimp only at hSw); go_simp; try with_reducible rfl)
          try simp only [Act.put, List.setIfInBounds_toArray, List.set_cons_zero, List.set_cons_succ]
          refine take_at (i := 5) (v := ?_) rfl (by kernel_rfl) (by kernel_rfl) (by kernel_rfl) (fun _ _ _ h => h) (Or.inl ⟨by kernel_rfl, ?_⟩) (by assumption) ?_
          rotate_left
          focus (intro w hSw; (try dsimp only at hSw); go_simp; try with_reducible rfl)
          try simp only [Act.put, List.setIfInBounds_toArray, List.set_cons_zero, List.set_cons_succ]
          refine take_at (i := 6) (v := ?_) rfl (by kernel_rfl) (by kernel_rfl) (by kernel_rfl) (fun _ _ _ h => h) (Or.inl ⟨by kernel_rfl, ?_⟩) (by assumption) ?_
          rotate_left
          focus (intro w hSw; (try dsimp only at hSw); go_simp; try with_reducible rfl)
          try simp only [Act.put, List.setIfInBounds_toArray, List.set_cons_zero, List.set_cons_succ]
          refine take_at (i := 7) (v := ?_) rfl (by kernel_rfl) (by kernel_rfl) (by kernel_rfl) (fun _ _ _ h => h) (Or.inl ⟨by kernel_rfl, ?_⟩) (by assumption) ?_
          rotate_left
          focus (intro w hSw; (try dsimp only at hSw); go_simp; try with_reducible rfl)
          try simp only [Act.put, List.setIfInBounds_toArray, List.set_cons_zero, List.set_cons_succ]
          refine take_at (i := 8) (v := ?_) rfl (by kernel_rfl) (by kernel_rfl) (by kernel_rfl) (fun _ _ _ h => h) (Or.inl ⟨by kernel_rfl, ?_⟩) (by assumption) ?_
          rotate_left
          focus (intro w hSw; (try dsimp only at hSw); go_simp; try with_reducible rfl)
          try simp only [Act.put, List.setIfInBounds_toArray, List.set_cons_zero, List.set_cons_succ]
          refine take_at (i := 9) (v := ?_) rfl (by kernel_rfl) (by kernel_rfl) (by kernel_rfl) (fun _ _ _ h => h) (Or.inl ⟨by kernel_rfl, ?_⟩) (by assumption) ?_
          rotate_left
          focus (intro w hSw; (try dsimp only at hSw); go_simp; try with_reducible rfl)
          try simp only [Act.put, List.setIfInBounds_toArray, List.set_cons_zero, List.set_cons_succ]
          refine take_at (i := 10) (v := ?_) rfl (by kernel_rfl) (by kernel_rfl) (by kernel_rfl) (fun _ _ _ h => h) (Or.inl ⟨by kernel_rfl, ?_⟩) (by assumption) ?_
          rotate_left
          focus (intro w hSw; (try dsimp only at hSw); go_simp; try with_reducible rfl)
          try simp only [Act.put, List.setIfInBounds_toArray, List.set_cons_zero, List.set_cons_succ]
          refine take_at (i := 11) (v := ?_) rfl (by kernel_rfl) (by kernel_rfl) (by kernel_rfl) (fun _ _ _ h => h) (Or.inl ⟨by kernel_rfl, ?_⟩) (by assumption) ?_
          rotate_left
          focus (intro w hSw; (try dsimp only at hSw); go_simp; try with_reducible rfl)
          try simp only [Act.put, List.setIfInBounds_toArray, List.set_cons_zero, List.set_cons_succ]
          refine take_at (i := 12) (v := ?_) rfl (by kernel_rfl) (by kernel_rfl) (by kernel_rfl) (fun _ _ _ h => h) (Or.inl ⟨by kernel_rfl, ?_⟩) (by assumption) ?_
          rotate_left
          focus (intro w hSw; (try dsimp only at hSw); go_simp; try with_reducible rfl)
          try simp only [Act.put, List.setIfInBounds_toArray, List.set_cons_zero, List.set_cons_succ]
          refine take_at (i := 13) (v := ?_) rfl (by kernel_rfl) (by kernel_rfl) (by kernel_rfl) (fun _ _ _ h => h) (Or.inl ⟨by kernel_rfl, ?_⟩) (by assumption) ?_
          rotate_left
          focus (intro w hSw; (try dsimp only at hSw); go_simp; try with_reducible rfl)
          try simp only [Act.put, List.setIfInBounds_toArray, List.set_cons_zero, List.set_cons_succ]
          refine take_at (i := 14) (v := ?_) rfl (by kernel_rfl) (by kernel_rfl) (by kernel_rfl) (fun _ _ _ h => h) (Or.inl ⟨by kernel_rfl, ?_⟩) (by assumption) ?_
          rotate_left
          focus (intro w hSw; (try dsimp only at hSw); go_simp; try with_reducible rfl)
          try simp only [Act.put, List.setIfInBounds_toArray, List.set_cons_zero, List.set_cons_succ]
          refine take_at (i := 15) (v := ?_) rfl (by kernel_rfl) (by kernel_rfl) (by kernel_rfl) (fun _ _ _ h => h) (Or.inl ⟨by kernel_rfl, ?_⟩) (by assumption) ?_
          rotate_left
          focus (intro w hSw; (try dsimp only at hSw); go_simp; try with_reducible rfl)
          try simp only [Act.put, List.setIfInBounds_toArray, List.set_cons_zero, List.set_cons_succ]
          refine take_at (i := 16) (v := ?_) rfl (by kernel_rfl) (by kernel_rfl) (by kernel_rfl) (fun _ _ _ h => h) (Or.inl ⟨by kernel_rfl, ?_⟩) (by assumption) ?_
          rotate_left
          focus (intro w hSw; (try dsimp only at hSw); go_simp; try with_reducible rfl)
          try simp only [Act.put, List.setIfInBounds_toArray, List.set_cons_zero, List.set_cons_succ]
          refine take_at (i := 17) (v := undef) rfl (by kernel_rfl) (by kernel_rfl) (by kernel_rfl) (fun _ _ _ h => h) (Or.inr ⟨by kernel_rfl, rfl⟩) (by assumption) ?_
          try simp only [Act.put, List.setIfInBounds_toArray, List.set_cons_zero, List.set_cons_succ]
          refine take_at (i := 19) (v := undef) rfl (by kernel_rfl) (by kernel_rfl) (by kernel_rfl) (fun _ _ _ h => h) (Or.inr ⟨by kernel_rfl, rfl⟩) (by assumption) ?_
          try simp only [Act.put, List.setIfInBounds_toArray, List.set_cons_zero, List.set_cons_succ]
          refine take_at (i := 20) (v := undef) rfl (by kernel_rfl) (by kernel_rfl) (by kernel_rfl) (fun _ _ _ h => h) (Or.inr ⟨by kernel_rfl, rfl⟩) (by assumption) ?_
          try simp only [Act.put, List.setIfInBounds_toArray, List.set_cons_zero, List.set_cons_succ]
          refine take_at (i := 18) (v := undef) rfl (by kernel_rfl) (by kernel_rfl) (by kernel_rfl) (fun _ _ _ h => h) (Or.inr ⟨by kernel_rfl, rfl⟩) (by assumption) ?_
          try simp only [Act.put, List.setIfInBounds_toArray, List.set_cons_zero, List.set_cons_succ]
          refine take_at (i := 21) (v := undef) rfl (by kernel_rfl) (by kernel_rfl) (by kernel_rfl) (fun _ _ _ h => h) (Or.inr ⟨by kernel_rfl, rfl⟩) (by assumption) ?_
          try simp only [Act.put, List.setIfInBounds_toArray, List.set_cons_zero, List.set_cons_succ]
          refine take_at (i := 22) (v := ?_) rfl (by kernel_rfl) (by kernel_rfl) (by kernel_rfl) (fun _ _ _ h => h) (Or.inl ⟨by kernel_rfl, ?_⟩) (by assumption) ?_
          rotate_left
          focus (intro w hSw; (try dsimp only at hSw); go_simp; try with_reducible rfl)
          try simp only [Act.put, List.setIfInBounds_toArray, List.set_cons_zero, List.set_cons_succ]
          refine take_at (i := 23) (v := ?_) rfl (by kernel_rfl) (by kernel_rfl) (by kernel_rfl) (fun _ _ _ h => h) (Or.inl ⟨by kernel_rfl, ?_⟩) (by assumption) ?_
          rotate_left
          focus (intro w hSw; (try dsimp only at hSw); go_simp; try with_reducible rfl)
          try simp only [Act.put, List.setIfInBounds_toArray, List.set_cons_zero, List.set_cons_succ]
          refine take_at (i := 24) (v := ?_) rfl (by kernel_rfl) (by kernel_rfl) (by kernel_rfl) (fun _ _ _ h => h) (Or.inl ⟨by kernel_rfl, ?_⟩) (by assumption) ?_
          rotate_left
          focus (intro w hSw; (try dsimp only at hSw); go_simp; try with_reducible rfl)
          try simp only [Act.put, List.setIfInBounds_toArray, List.set_cons_zero, List.set_cons_succ]
          refine take_at (i := 25) (v := ?_) rfl (by kernel_rfl) (by kernel_rfl) (by kernel_rfl) (fun _ _ _ h => h) (Or.inl ⟨by kernel_rfl, ?_⟩) (by assumption) ?_
          rotate_left
          focus (intro w hSw; (try dsimp only at hSw); go_simp; try with_reducible rfl)
          try simp only [Act.put, List.setIfInBounds_toArray, List.set_cons_zero, List.set_cons_succ]
          refine take_at (i := 26) (v := ?_) rfl (by kernel_rfl) (by kernel_rfl) (by kernel_rfl) (fun _ _ _ h => h) (Or.inl ⟨by kernel_rfl, ?_⟩) (by assumption) ?_
          rotate_left
          focus (intro w hSw; (try dsimp only at hSw); go_simp; try with_reducible rfl)
          try simp only [Act.put, List.setIfInBounds_toArray, List.set_cons_zero, List.set_cons_succ]
          refine take_at (i := 27) (v := ?_) rfl (by kernel_rfl) (by kernel_rfl) (by kernel_rfl) (fun _ _ _ h => h) (Or.inl ⟨by kernel_rfl, ?_⟩) (by assumption) ?_
          rotate_left
          focus (intro w hSw; (try dsimp only at hSw); go_simp; try with_reducible rfl)
          try simp only [Act.put, List.setIfInBounds_toArray, List.set_cons_zero, List.set_cons_succ]
          refine take_at (i := 28) (v := ?_) rfl (by kernel_rfl) (by kernel_rfl) (by kernel_rfl) (fun _ _ _ h => h) (Or.inl ⟨by kernel_rfl, ?_⟩) (by assumption) ?_
          rotate_left
          focus (intro w hSw; (try dsimp only at hSw); go_simp; try with_reducible rfl)
          try simp only [Act.put, List.setIfInBounds_toArray, List.set_cons_zero, List.set_cons_succ]
          refine take_at (i := 29) (v := ?_) rfl (by kernel_rfl) (by kernel_rfl) (by kernel_rfl) (fun _ _ _ h => h) (Or.inl ⟨by kernel_rfl, ?_⟩) (by assumption) ?_
          rotate_left
          focus (intro w hSw; (try dsimp only at hSw); go_simp; try with_reducible rfl)
          try simp only [Act.put, List.setIfInBounds_toArray, List.set_cons_zero, List.set_cons_succ]
          refine take_at (i := 30) (v := ?_) rfl (by kernel_rfl) (by kernel_rfl) (by kernel_rfl) (fun _ _ _ h => h) (Or.inl ⟨by kernel_rfl, ?_⟩) (by assumption) ?_
          rotate_left
          focus (intro w hSw; (try dsimp only at hSw); go_simp; try with_reducible rfl)
          try simp only [Act.put, List.setIfInBounds_toArray, List.set_cons_zero, List.set_cons_succ]
          refine take_at (i := 31) (v := ?_) rfl (by kernel_rfl) (by kernel_rfl) (by kernel_rfl) (fun _ _ _ h => h) (Or.inl ⟨by kernel_rfl, ?_⟩) (by assumption) ?_
          rotate_left
          focus (intro w hSw; (try dsimp only at hSw); go_simp; try with_reducible rfl)
          try simp only [Act.put, List.setIfInBounds_toArray, List.set_cons_zero, List.set_cons_succ]
          refine wpAnyH_done (by kernel_rfl) ?_ _
          all_goals
            have HJ := Lib.hid (show Same (fun _ => False) wr w' by first | assumption | exact Same.refl _ _ | exact (Same.refl _ _).drew)
            go_wp2_with fail
            go_ret
            exact ⟨rfl, same_to_below (HSR.out.trans HJ.out (fun _ _ h => h.elim))⟩
        · skip
          have HO := Lib.hid hO
          rw [hO] at hbad
          subst hbad
          rw [hcalls] at hmt
          obtain ⟨hk1, rfl⟩ := tuple_inj2 hkv
          cases hk1
          have HSRD := Lib.hid (HS18.out.trans hs (fun _ _ h => h))
          have hmr := tells_meter hmt HW7.out
          obtain ⟨m0, _, _, _, _⟩ := meter_cells hmr
          have c0 := (dcells HDB.out HSRD.out).1
          have HF := Lib.hid (HW7.out.obj hf id)
          have HCL := Lib.hid (fun (w' : World) (h : Same (fun _ => False) wr w') => class_fault (h.obj HF.out id) hfo ((HGR.out.same hs id).same h id))
          have HWH := Lib.hid (fun (w' : World) (h : Same (fun _ => False) wr w') => where_fault (h.obj HF.out id) hfo ((HGR.out.same hs id).same h id))
          clear hmt hmr hO hs hkv hf
          refine wp_region_held_drew (S := (fun w' => w'.cell? ⟨W.heap.size, 0, none⟩ = some (.string name) ∧ w'.cell? ⟨w2.heap.size, 0, none⟩ = some (.int .i64 cl) ∧ Same (fun _ => False) wr w')) (by kernel_rfl) ⟨c0, m0, (Same.refl _ _).drew⟩ (fun hHeld => ?_)
          refine take_at (i := 0) (v := ?_) rfl (by kernel_rfl) (by kernel_rfl) (by kernel_rfl) (fun _ _ _ h => h) (Or.inl ⟨by kernel_rfl, ?_⟩) (by assumption) ?_
          rotate_left
          focus (intro w hSw; (try dsimp only at hSw); go_simp; try with_reducible rfl)
          try simp only [Act.put, List.setIfInBounds_toArray, List.set_cons_zero, List.set_cons_succ]
          refine take_at (i := 2) (v := ?_) rfl (by kernel_rfl) (by kernel_rfl) (by kernel_rfl) (fun _ _ _ h => h) (Or.inl ⟨by kernel_rfl, ?_⟩) (by assumption) ?_
          rotate_left
          focus (intro w hSw; (try dsimp only at hSw); go_simp; try with_reducible rfl)
          try simp only [Act.put, List.setIfInBounds_toArray, List.set_cons_zero, List.set_cons_succ]
          refine wpAnyH_ready (rs := [1]) (by kernel_rfl) (by simp) ?_
          refine AllReadyH.cons rfl (fun K hK => ?_) AllReadyH.nil
          go_simp
          go_at_call 30
          refine (HCL.out _ ((Same.refl _ _).drew)).mono ?_
          rintro e w' ⟨rfl, hs'⟩
          have j3 : Same (fun _ => False) wr w' := Same.trans ((Same.refl _ _).drew) hs' (fun _ _ h => h)
          have j1 := ocell (a := ⟨W.heap.size, 0, none⟩) j3 c0 id
          have j2 := ocell (a := ⟨w2.heap.size, 0, none⟩) j3 m0 id
          try (go_wp2_with fail)
          refine hK.out _ _ ⟨j1, j2, j3⟩ (fun hHeld => ?_)
          clear hK K
          try simp only [Act.put, List.setIfInBounds_toArray, List.set_cons_zero, List.set_cons_succ]
          refine take_at (i := 3) (v := ?_) rfl (by kernel_rfl) (by kernel_rfl) (by kernel_rfl) (fun _ _ _ h => h) (Or.inl ⟨by kernel_rfl, ?_⟩) (by assumption) ?_
          rotate_left
          focus (intro w hSw; (try dsimp only at hSw); go_simp; try with_reducible rfl)
          try simp only [Act.put, List.setIfInBounds_toArray, List.set_cons_zero, List.set_cons_succ]
          refine take_at (i := 4) (v := ?_) rfl (by kernel_rfl) (by kernel_rfl) (by kernel_rfl) (fun _ _ _ h => h) (Or.inl ⟨by kernel_rfl, ?_⟩) (by assumption) ?_
          rotate_left
          focus (intro w hSw; (try dsimp only at hSw); go_simp; try with_reducible rfl)
          try simp only [Act.put, List.setIfInBounds_toArray, List.set_cons_zero, List.set_cons_succ]
          refine take_at (i := 5) (v := ?_) rfl (by kernel_rfl) (by kernel_rfl) (by kernel_rfl) (fun _ _ _ h => h) (Or.inl ⟨by kernel_rfl, ?_⟩) (by assumption) ?_
          rotate_left
          focus (intro w hSw; (try dsimp only at hSw); go_simp; try with_reducible rfl)
          try simp only [Act.put, List.setIfInBounds_toArray, List.set_cons_zero, List.set_cons_succ]
          refine take_at (i := 6) (v := ?_) rfl (by kernel_rfl) (by kernel_rfl) (by kernel_rfl) (fun _ _ _ h => h) (Or.inl ⟨by kernel_rfl, ?_⟩) (by assumption) ?_
          rotate_left
          focus (intro w hSw; (try dsimp only at hSw); go_simp; try with_reducible rfl)
          try simp only [Act.put, List.setIfInBounds_toArray, List.set_cons_zero, List.set_cons_succ]
          refine take_at (i := 7) (v := ?_) rfl (by kernel_rfl) (by kernel_rfl) (by kernel_rfl) (fun _ _ _ h => h) (Or.inl ⟨by kernel_rfl, ?_⟩) (by assumption) ?_
          rotate_left
          focus (intro w hSw; (try dsimp only at hSw); go_simp; try with_reducible rfl)
          try simp only [Act.put, List.setIfInBounds_toArray, List.set_cons_zero, List.set_cons_succ]
          refine take_at (i := 8) (v := ?_) rfl (by kernel_rfl) (by kernel_rfl) (by kernel_rfl) (fun _ _ _ h => h) (Or.inl ⟨by kernel_rfl, ?_⟩) (by assumption) ?_
          rotate_left
          focus (intro w hSw; (try dsimp only at hSw); go_simp; try with_reducible rfl)
          try simp only [Act.put, List.setIfInBounds_toArray, List.set_cons_zero, List.set_cons_succ]
          refine take_at (i := 9) (v := ?_) rfl (by kernel_rfl) (by kernel_rfl) (by kernel_rfl) (fun _ _ _ h => h) (Or.inl ⟨by kernel_rfl, ?_⟩) (by assumption) ?_
          rotate_left
          focus (intro w hSw; (try dsimp only at hSw); go_simp; try with_reducible rfl)
          try simp only [Act.put, List.setIfInBounds_toArray, List.set_cons_zero, List.set_cons_succ]
          refine take_at (i := 10) (v := ?_) rfl (by kernel_rfl) (by kernel_rfl) (by kernel_rfl) (fun _ _ _ h => h) (Or.inl ⟨by kernel_rfl, ?_⟩) (by assumption) ?_
          rotate_left
          focus (intro w hSw; (try dsimp only at hSw); go_simp; try with_reducible rfl)
          try simp only [Act.put, List.setIfInBounds_toArray, List.set_cons_zero, List.set_cons_succ]
          refine take_at (i := 11) (v := ?_) rfl (by kernel_rfl) (by kernel_rfl) (by kernel_rfl) (fun _ _ _ h => h) (Or.inl ⟨by kernel_rfl, ?_⟩) (by assumption) ?_
          rotate_left
          focus (intro w hSw; (try dsimp only at hSw); go_simp; try with_reducible rfl)
          try simp only [Act.put, List.setIfInBounds_toArray, List.set_cons_zero, List.set_cons_succ]
          refine take_at (i := 12) (v := ?_) rfl (by kernel_rfl) (by kernel_rfl) (by kernel_rfl) (fun _ _ _ h => h) (Or.inl ⟨by kernel_rfl, ?_⟩) (by assumption) ?_
          rotate_left
          focus (intro w hSw; (try dsimp only at hSw); go_simp; try with_reducible rfl)
          try simp only [Act.put, List.setIfInBounds_toArray, List.set_cons_zero, List.set_cons_succ]
          refine take_at (i := 13) (v := ?_) rfl (by kernel_rfl) (by kernel_rfl) (by kernel_rfl) (fun _ _ _ h => h) (Or.inl ⟨by kernel_rfl, ?_⟩) (by assumption) ?_
          rotate_left
          focus (intro w hSw; (try dsimp only at hSw); go_simp; try with_reducible rfl)
          try simp only [Act.put, List.setIfInBounds_toArray, List.set_cons_zero, List.set_cons_succ]
          refine take_at (i := 14) (v := ?_) rfl (by kernel_rfl) (by kernel_rfl) (by kernel_rfl) (fun _ _ _ h => h) (Or.inl ⟨by kernel_rfl, ?_⟩) (by assumption) ?_
          rotate_left
          focus (intro w hSw; (try dsimp only at hSw); go_simp; try with_reducible rfl)
          try simp only [Act.put, List.setIfInBounds_toArray, List.set_cons_zero, List.set_cons_succ]
          refine take_at (i := 15) (v := ?_) rfl (by kernel_rfl) (by kernel_rfl) (by kernel_rfl) (fun _ _ _ h => h) (Or.inl ⟨by kernel_rfl, ?_⟩) (by assumption) ?_
          rotate_left
          focus (intro w hSw; (try dsimp only at hSw); go_simp; try with_reducible rfl)
          try simp only [Act.put, List.setIfInBounds_toArray, List.set_cons_zero, List.set_cons_succ]
          refine take_at (i := 16) (v := ?_) rfl (by kernel_rfl) (by kernel_rfl) (by kernel_rfl) (fun _ _ _ h => h) (Or.inl ⟨by kernel_rfl, ?_⟩) (by assumption) ?_
          rotate_left
          focus (intro w hSw; (try dsimp only at hSw); go_simp; try with_reducible rfl)
          try simp only [Act.put, List.setIfInBounds_toArray, List.set_cons_zero, List.set_cons_succ]
          refine take_at (i := 17) (v := ?_) rfl (by kernel_rfl) (by kernel_rfl) (by kernel_rfl) (fun _ _ _ h => h) (Or.inl ⟨by kernel_rfl, ?_⟩) (by assumption) ?_
          rotate_left
          focus (intro w hSw; (try dsimp only at hSw); go_simp; try with_reducible rfl)
          try simp only [Act.put, List.setIfInBounds_toArray, List.set_cons_zero, List.set_cons_succ]
          refine take_at (i := 19) (v := ?_) rfl (by kernel_rfl) (by kernel_rfl) (by kernel_rfl) (fun _ _ _ h => h) (Or.inl ⟨by kernel_rfl, ?_⟩) (by assumption) ?_
          rotate_left
          focus (intro w hSw; (try dsimp only at hSw); go_simp; try with_reducible rfl)
          try simp only [Act.put, List.setIfInBounds_toArray, List.set_cons_zero, List.set_cons_succ]
          refine take_at (i := 20) (v := ?_) rfl (by kernel_rfl) (by kernel_rfl) (by kernel_rfl) (fun _ _ _ h => h) (Or.inl ⟨by kernel_rfl, ?_⟩) (by assumption) ?_
          rotate_left
          focus (intro w hSw; (try dsimp only at hSw); go_simp; try with_reducible rfl)
          try simp only [Act.put, List.setIfInBounds_toArray, List.set_cons_zero, List.set_cons_succ]
          refine wpAnyH_ready (rs := [18]) (by kernel_rfl) (by simp) ?_
          refine AllReadyH.cons rfl (fun K hK => ?_) AllReadyH.nil
          go_simp
          go_at_call 31
          refine (HWH.out _ (j3)).mono ?_
          rintro e w' ⟨rfl, hs'⟩
          have j3 : Same (fun _ => False) wr w' := Same.trans (j3) hs' (fun _ _ h => h)
          have j1 := ocell (a := ⟨W.heap.size, 0, none⟩) j3 c0 id
          have j2 := ocell (a := ⟨w2.heap.size, 0, none⟩) j3 m0 id
          try (go_wp2_with fail)
          refine hK.out _ _ ⟨j1, j2, j3⟩ (fun hHeld => ?_)
          clear hK K
          try simp only [Act.put, List.setIfInBounds_toArray, List.set_cons_zero, List.set_cons_succ]
          refine take_at (i := 21) (v := ?_) rfl (by kernel_rfl) (by kernel_rfl) (by kernel_rfl) (fun _ _ _ h => h) (Or.inl ⟨by kernel_rfl, ?_⟩) (by assumption) ?_
          rotate_left
          focus (intro w hSw; (try dsimp only at hSw); go_simp; try with_reducible rfl)
          try simp only [Act.put, List.setIfInBounds_toArray, List.set_cons_zero, List.set_cons_succ]
          refine take_at (i := 22) (v := ?_) rfl (by kernel_rfl) (by kernel_rfl) (by kernel_rfl) (fun _ _ _ h => h) (Or.inl ⟨by kernel_rfl, ?_⟩) (by assumption) ?_
          rotate_left
          focus (intro w hSw; (try dsimp only at hSw); go_simp; try with_reducible rfl)
          try simp only [Act.put, List.setIfInBounds_toArray, List.set_cons_zero, List.set_cons_succ]
          refine take_at (i := 23) (v := ?_) rfl (by kernel_rfl) (by kernel_rfl) (by kernel_rfl) (fun _ _ _ h => h) (Or.inl ⟨by kernel_rfl, ?_⟩) (by assumption) ?_
          rotate_left
          focus (intro w hSw; (try dsimp only at hSw); go_simp; try with_reducible rfl)
          try simp only [Act.put, List.setIfInBounds_toArray, List.set_cons_zero, List.set_cons_succ]
          refine take_at (i := 24) (v := ?_) rfl (by kernel_rfl) (by kernel_rfl) (by kernel_rfl) (fun _ _ _ h => h) (Or.inl ⟨by kernel_rfl, ?_⟩) (by assumption) ?_
          rotate_left
          focus (intro w hSw; (try dsimp only at hSw); go_simp; try with_reducible rfl)
          try simp only [Act.put, List.setIfInBounds_toArray, List.set_cons_zero, List.set_cons_succ]
          refine take_at (i := 25) (v := ?_) rfl (by kernel_rfl) (by kernel_rfl) (by kernel_rfl) (fun _ _ _ h => h) (Or.inl ⟨by kernel_rfl, ?_⟩) (by assumption) ?_
          rotate_left
          focus (intro w hSw; (try dsimp only at hSw); go_simp; try with_reducible rfl)
          try simp only [Act.put, List.setIfInBounds_toArray, List.set_cons_zero, List.set_cons_succ]
          refine take_at (i := 26) (v := ?_) rfl (by kernel_rfl) (by kernel_rfl) (by kernel_rfl) (fun _ _ _ h => h) (Or.inl ⟨by kernel_rfl, ?_⟩) (by assumption) ?_
          rotate_left
          focus (intro w hSw; (try dsimp only at hSw); go_simp; try with_reducible rfl)
          try simp only [Act.put, List.setIfInBounds_toArray, List.set_cons_zero, List.set_cons_succ]
          refine take_at (i := 27) (v := ?_) rfl (by kernel_rfl) (by kernel_rfl) (by kernel_rfl) (fun _ _ _ h => h) (Or.inl ⟨by kernel_rfl, ?_⟩) (by assumption) ?_
          rotate_left
          focus (intro w hSw; (try dsimp only at hSw); go_simp; try with_reducible rfl)
          try simp only [Act.put, List.setIfInBounds_toArray, List.set_cons_zero, List.set_cons_succ]
          refine take_at (i := 28) (v := ?_) rfl (by kernel_rfl) (by kernel_rfl) (by kernel_rfl) (fun _ _ _ h => h) (Or.inl ⟨by kernel_rfl, ?_⟩) (by assumption) ?_
          rotate_left
          focus (intro w hSw; (try dsimp only at hSw); go_simp; try with_reducible rfl)
          try simp only [Act.put, List.setIfInBounds_toArray, List.set_cons_zero, List.set_cons_succ]
          refine take_at (i := 29) (v := ?_) rfl (by kernel_rfl) (by kernel_rfl) (by kernel_rfl) (fun _ _ _ h => h) (Or.inl ⟨by kernel_rfl, ?_⟩) (by assumption) ?_
          rotate_left
          focus (intro w hSw; (try dsimp only at hSw); go_simp; try with_reducible rfl)
          try simp only [Act.put, List.setIfInBounds_toArray, List.set_cons_zero, List.set_cons_succ]
          refine take_at (i := 30) (v := ?_) rfl (by kernel_rfl) (by kernel_rfl) (by kernel_rfl) (fun _ _ _ h => h) (Or.inl ⟨by kernel_rfl, ?_⟩) (by assumption) ?_
          rotate_left
          focus (intro w hSw; (try dsimp only at hSw); go_simp; try with_reducible rfl)
          try simp only [Act.put, List.setIfInBounds_toArray, List.set_cons_zero, List.set_cons_succ]
          refine take_at (i := 31) (v := ?_) rfl (by kernel_rfl) (by kernel_rfl) (by kernel_rfl) (fun _ _ _ h => h) (Or.inl ⟨by kernel_rfl, ?_⟩) (by assumption) ?_
          rotate_left
          focus (intro w hSw; (try dsimp only at hSw); go_simp; try with_reducible rfl)
          try simp only [Act.put, List.setIfInBounds_toArray, List.set_cons_zero, List.set_cons_succ]
          refine wpAnyH_done (by kernel_rfl) ?_ _
          all_goals
            have HJ := Lib.hid (show Same (fun _ => False) wr w' by first | assumption | exact Same.refl _ _ | exact (Same.refl _ _).drew)
            go_wp2_with fail
            go_ret
            exact ⟨rfl, same_to_below (HSR.out.trans HJ.out (fun _ _ h => h.elim))⟩
    · obtain rfl : k = P.length := by omega
      have hlt' : ¬ (P.length : Int) < (P.length : Int) := by omega
      have HFIN := Lib.hid (HSC.out.fin (Or.inr rfl))
      have HGR := HG8
      go_upto_region 23 with fail
      clear x2 hlt'
      obtain ⟨hbad, hcalls⟩ := HFIN.out
      have HSR := Lib.hid (HS8.out.trans hs (fun _ _ h => h.elim))
      have hw7 : Same (fun _ => False) w7 wr := HS78.out.trans hs (fun _ _ h => h)
      have HW7 := Lib.hid hw7
      clear hw7
      have hE := HE.out
      rcases hE.three with ⟨l, c, hO, v, hkv, hown, hmt⟩ | ⟨hO, hkv, hmt⟩ | ⟨hO, p, err, s', hkv, hf, hfo, hmt⟩
      · have HO := Lib.hid hO
        rw [hO] at hbad hcalls
        simp only [KeyOut.bad, KeyOut.calls] at hbad hcalls
        subst hbad
        subst hcalls
        obtain ⟨rfl, rfl⟩ := tuple_inj2 hkv
        have HSRD := Lib.hid (HS18.out.trans hs (fun _ _ h => h))
        have hmr := tells_meter hmt HW7.out
        obtain ⟨m0, _, _, _, _⟩ := meter_cells hmr
        have c0 := (dcells HDB.out HSRD.out).1
        have HKV := Lib.hid (HW7.out.row hown (fun _ _ => id))
        have HCL := Lib.hid (fun (w' : World) (_ : Same (fun _ => False) wr w') => class_nil' w')
        clear hown hmt hmr hO hs hkv
        refine wp_region_held_drew (S := (fun w' => w'.cell? ⟨W.heap.size, 0, none⟩ = some (.string name) ∧ w'.cell? ⟨w2.heap.size, 0, none⟩ = some (.int .i64 c) ∧ Same (fun _ => False) wr w')) (by kernel_rfl) ⟨c0, m0, (Same.refl _ _).drew⟩ (fun hHeld => ?_)
        refine take_at (i := 0) (v := ?_) rfl (by kernel_rfl) (by kernel_rfl) (by kernel_rfl) (fun _ _ _ h => h) (Or.inl ⟨by kernel_rfl, ?_⟩) (by assumption) ?_
        rotate_left
        focus (intro w hSw; (try dsimp only at hSw); go_simp; try with_reducible rfl)
        try simp only [Act.put, List.setIfInBounds_toArray, List.set_cons_zero, List.set_cons_succ]
        refine take_at (i := 2) (v := ?_) rfl (by kernel_rfl) (by kernel_rfl) (by kernel_rfl) (fun _ _ _ h => h) (Or.inl ⟨by kernel_rfl, ?_⟩) (by assumption) ?_
        rotate_left
        focus (intro w hSw; (try dsimp only at hSw); go_simp; try with_reducible rfl)
        try simp only [Act.put, List.setIfInBounds_toArray, List.set_cons_zero, List.set_cons_succ]
        refine wpAnyH_ready (rs := [1]) (by kernel_rfl) (by simp) ?_
        refine AllReadyH.cons rfl (fun K hK => ?_) AllReadyH.nil
        go_simp
        go_at_call 30
        refine (HCL.out _ ((Same.refl _ _).drew)).mono ?_
        rintro e w' ⟨rfl, hs'⟩
        have j3 : Same (fun _ => False) wr w' := Same.trans ((Same.refl _ _).drew) hs' (fun _ _ h => h)
        have j1 := ocell (a := ⟨W.heap.size, 0, none⟩) j3 c0 id
        have j2 := ocell (a := ⟨w2.heap.size, 0, none⟩) j3 m0 id
        try (go_wp2_with fail)
        refine hK.out _ _ ⟨j1, j2, j3⟩ (fun hHeld => ?_)
        clear hK K
        try simp only [Act.put, List.setIfInBounds_toArray, List.set_cons_zero, List.set_cons_succ]
        refine take_at (i := 3) (v := ?_) rfl (by kernel_rfl) (by kernel_rfl) (by kernel_rfl) (fun _ _ _ h => h) (Or.inl ⟨by kernel_rfl, ?_⟩) (by assumption) ?_
        rotate_left
        focus (intro w hSw; (try dsimp only at hSw); go_simp; try with_reducible rfl)
        try simp only [Act.put, List.setIfInBounds_toArray, List.set_cons_zero, List.set_cons_succ]
        refine take_at (i := 4) (v := ?_) rfl (by kernel_rfl) (by kernel_rfl) (by kernel_rfl) (fun _ _ _ h => h) (Or.inl ⟨by kernel_rfl, ?_⟩) (by assumption) ?_
        rotate_left
        focus (intro w hSw; (try dsimp only at hSw); go_simp; try with_reducible rfl)
        try simp only [Act.put, List.setIfInBounds_toArray, List.set_cons_zero, List.set_cons_succ]
        refine take_at (i := 5) (v := ?_) rfl (by kernel_rfl) (by kernel_rfl) (by kernel_rfl) (fun _ _ _ h => h) (Or.inl ⟨by kernel_rfl, ?_⟩) (by assumption) ?_
        rotate_left
        focus (intro w hSw; (try dsimp only at hSw); go_simp; try with_reducible rfl)
        try simp only [Act.put, List.setIfInBounds_toArray, List.set_cons_zero, List.set_cons_succ]
        refine take_at (i := 6) (v := ?_) rfl (by kernel_rfl) (by kernel_rfl) (by kernel_rfl) (fun _ _ _ h => h) (Or.inl ⟨by kernel_rfl, ?_⟩) (by assumption) ?_
        rotate_left
        focus (intro w hSw; (try dsimp only at hSw); go_simp; try with_reducible rfl)
        try simp only [Act.put, List.setIfInBounds_toArray, List.set_cons_zero, List.set_cons_succ]
        refine take_at (i := 7) (v := ?_) rfl (by kernel_rfl) (by kernel_rfl) (by kernel_rfl) (fun _ _ _ h => h) (Or.inl ⟨by kernel_rfl, ?_⟩) (by assumption) ?_
        rotate_left
        focus (intro w hSw; (try dsimp only at hSw); go_simp; try with_reducible rfl)
        try simp only [Act.put, List.setIfInBounds_toArray, List.set_cons_zero, List.set_cons_succ]
        refine take_at (i := 8) (v := undef) rfl (by kernel_rfl) (by kernel_rfl) (by kernel_rfl) (fun _ _ _ h => h) (Or.inr ⟨by kernel_rfl, rfl⟩) (by assumption) ?_
        try simp only [Act.put, List.setIfInBounds_toArray, List.set_cons_zero, List.set_cons_succ]
        refine take_at (i := 9) (v := undef) rfl (by kernel_rfl) (by kernel_rfl) (by kernel_rfl) (fun _ _ _ h => h) (Or.inr ⟨by kernel_rfl, rfl⟩) (by assumption) ?_
        try simp only [Act.put, List.setIfInBounds_toArray, List.set_cons_zero, List.set_cons_succ]
        refine take_at (i := 10) (v := undef) rfl (by kernel_rfl) (by kernel_rfl) (by kernel_rfl) (fun _ _ _ h => h) (Or.inr ⟨by kernel_rfl, rfl⟩) (by assumption) ?_
        try simp only [Act.put, List.setIfInBounds_toArray, List.set_cons_zero, List.set_cons_succ]
        refine take_at (i := 11) (v := ?_) rfl (by kernel_rfl) (by kernel_rfl) (by kernel_rfl) (fun _ _ _ h => h) (Or.inl ⟨by kernel_rfl, ?_⟩) (by assumption) ?_
        rotate_left
        focus (intro w hSw; (try dsimp only at hSw); go_simp; try with_reducible rfl)
        try simp only [Act.put, List.setIfInBounds_toArray, List.set_cons_zero, List.set_cons_succ]
        refine take_at (i := 12) (v := ?_) rfl (by kernel_rfl) (by kernel_rfl) (by kernel_rfl) (fun _ _ _ h => h) (Or.inl ⟨by kernel_rfl, ?_⟩) (by assumption) ?_
        rotate_left
        focus (intro w hSw; (try dsimp only at hSw); go_simp; try with_reducible rfl)
        try simp only [Act.put, List.setIfInBounds_toArray, List.set_cons_zero, List.set_cons_succ]
        refine take_at (i := 13) (v := ?_) rfl (by kernel_rfl) (by kernel_rfl) (by kernel_rfl) (fun _ _ _ h => h) (Or.inl ⟨by kernel_rfl, ?_⟩) (by assumption) ?_
        rotate_left
        focus (intro w hSw; (try dsimp only at hSw); go_simp; try with_reducible rfl)
        try simp only [Act.put, List.setIfInBounds_toArray, List.set_cons_zero, List.set_cons_succ]
        refine take_at (i := 14) (v := ?_) rfl (by kernel_rfl) (by kernel_rfl) (by kernel_rfl) (fun _ _ _ h => h) (Or.inl ⟨by kernel_rfl, ?_⟩) (by assumption) ?_
        rotate_left
        focus (intro w hSw; (try dsimp only at hSw); go_simp; try with_reducible rfl)
        try simp only [Act.put, List.setIfInBounds_toArray, List.set_cons_zero, List.set_cons_succ]
        refine take_at (i := 15) (v := ?_) rfl (by kernel_rfl) (by kernel_rfl) (by kernel_rfl) (fun _ _ _ h => h) (Or.inl ⟨by kernel_rfl, ?_⟩) (by assumption) ?_
        rotate_left
        focus (intro w hSw; (try dsimp only at hSw); go_simp; try with_reducible rfl)
        try simp only [Act.put, List.setIfInBounds_toArray, List.set_cons_zero, List.set_cons_succ]
        refine take_at (i := 16) (v := ?_) rfl (by kernel_rfl) (by kernel_rfl) (by kernel_rfl) (fun _ _ _ h => h) (Or.inl ⟨by kernel_rfl, ?_⟩) (by assumption) ?_
        rotate_left
        focus (intro w hSw; (try dsimp only at hSw); go_simp; try with_reducible rfl)
        try simp only [Act.put, List.setIfInBounds_toArray, List.set_cons_zero, List.set_cons_succ]
        refine take_at (i := 17) (v := undef) rfl (by kernel_rfl) (by kernel_rfl) (by kernel_rfl) (fun _ _ _ h => h) (Or.inr ⟨by kernel_rfl, rfl⟩) (by assumption) ?_
        try simp only [Act.put, List.setIfInBounds_toArray, List.set_cons_zero, List.set_cons_succ]
        refine take_at (i := 19) (v := undef) rfl (by kernel_rfl) (by kernel_rfl) (by kernel_rfl) (fun _ _ _ h => h) (Or.inr ⟨by kernel_rfl, rfl⟩) (by assumption) ?_
        try simp only [Act.put, List.setIfInBounds_toArray, List.set_cons_zero, List.set_cons_succ]
        refine take_at (i := 20) (v := undef) rfl (by kernel_rfl) (by kernel_rfl) (by kernel_rfl) (fun _ _ _ h => h) (Or.inr ⟨by kernel_rfl, rfl⟩) (by assumption) ?_
        try simp only [Act.put, List.setIfInBounds_toArray, List.set_cons_zero, List.set_cons_succ]
        refine take_at (i := 18) (v := undef) rfl (by kernel_rfl) (by kernel_rfl) (by kernel_rfl) (fun _ _ _ h => h) (Or.inr ⟨by kernel_rfl, rfl⟩) (by assumption) ?_
        try simp only [Act.put, List.setIfInBounds_toArray, List.set_cons_zero, List.set_cons_succ]
        refine take_at (i := 21) (v := undef) rfl (by kernel_rfl) (by kernel_rfl) (by kernel_rfl) (fun _ _ _ h => h) (Or.inr ⟨by kernel_rfl, rfl⟩) (by assumption) ?_
        try simp only [Act.put, List.setIfInBounds_toArray, List.set_cons_zero, List.set_cons_succ]
        refine take_at (i := 22) (v := ?_) rfl (by kernel_rfl) (by kernel_rfl) (by kernel_rfl) (fun _ _ _ h => h) (Or.inl ⟨by kernel_rfl, ?_⟩) (by assumption) ?_
        rotate_left
        focus (intro w hSw; (try dsimp only at hSw); go_simp; try with_reducible rfl)
        try simp only [Act.put, List.setIfInBounds_toArray, List.set_cons_zero, List.set_cons_succ]
        refine take_at (i := 23) (v := ?_) rfl (by kernel_rfl) (by kernel_rfl) (by kernel_rfl) (fun _ _ _ h => h) (Or.inl ⟨by kernel_rfl, ?_⟩) (by assumption) ?_
        rotate_left
        focus (intro w hSw; (try dsimp only at hSw); go_simp; try with_reducible rfl)
        try simp only [Act.put, List.setIfInBounds_toArray, List.set_cons_zero, List.set_cons_succ]
        refine take_at (i := 24) (v := ?_) rfl (by kernel_rfl) (by kernel_rfl) (by kernel_rfl) (fun _ _ _ h => h) (Or.inl ⟨by kernel_rfl, ?_⟩) (by assumption) ?_
        rotate_left
        focus (intro w hSw; (try dsimp only at hSw); go_simp; try with_reducible rfl)
        try simp only [Act.put, List.setIfInBounds_toArray, List.set_cons_zero, List.set_cons_succ]
        refine take_at (i := 25) (v := ?_) rfl (by kernel_rfl) (by kernel_rfl) (by kernel_rfl) (fun _ _ _ h => h) (Or.inl ⟨by kernel_rfl, ?_⟩) (by assumption) ?_
        rotate_left
        focus (intro w hSw; (try dsimp only at hSw); go_simp; try with_reducible rfl)
        try simp only [Act.put, List.setIfInBounds_toArray, List.set_cons_zero, List.set_cons_succ]
        refine take_at (i := 26) (v := ?_) rfl (by kernel_rfl) (by kernel_rfl) (by kernel_rfl) (fun _ _ _ h => h) (Or.inl ⟨by kernel_rfl, ?_⟩) (by assumption) ?_
        rotate_left
        focus (intro w hSw; (try dsimp only at hSw); go_simp; try with_reducible rfl)
        try simp only [Act.put, List.setIfInBounds_toArray, List.set_cons_zero, List.set_cons_succ]
        refine take_at (i := 27) (v := ?_) rfl (by kernel_rfl) (by kernel_rfl) (by kernel_rfl) (fun _ _ _ h => h) (Or.inl ⟨by kernel_rfl, ?_⟩) (by assumption) ?_
        rotate_left
        focus (intro w hSw; (try dsimp only at hSw); go_simp; try with_reducible rfl)
        try simp only [Act.put, List.setIfInBounds_toArray, List.set_cons_zero, List.set_cons_succ]
        refine take_at (i := 28) (v := ?_) rfl (by kernel_rfl) (by kernel_rfl) (by kernel_rfl) (fun _ _ _ h => h) (Or.inl ⟨by kernel_rfl, ?_⟩) (by assumption) ?_
        rotate_left
        focus (intro w hSw; (try dsimp only at hSw); go_simp; try with_reducible rfl)
        try simp only [Act.put, List.setIfInBounds_toArray, List.set_cons_zero, List.set_cons_succ]
        refine take_at (i := 29) (v := ?_) rfl (by kernel_rfl) (by kernel_rfl) (by kernel_rfl) (fun _ _ _ h => h) (Or.inl ⟨by kernel_rfl, ?_⟩) (by assumption) ?_
        rotate_left
        focus (intro w hSw; (try dsimp only at hSw); go_simp; try with_reducible rfl)
        try simp only [Act.put, List.setIfInBounds_toArray, List.set_cons_zero, List.set_cons_succ]
        refine take_at (i := 30) (v := ?_) rfl (by kernel_rfl) (by kernel_rfl) (by kernel_rfl) (fun _ _ _ h => h) (Or.inl ⟨by kernel_rfl, ?_⟩) (by assumption) ?_
        rotate_left
        focus (intro w hSw; (try dsimp only at hSw); go_simp; try with_reducible rfl)
        try simp only [Act.put, List.setIfInBounds_toArray, List.set_cons_zero, List.set_cons_succ]
        refine take_at (i := 31) (v := ?_) rfl (by kernel_rfl) (by kernel_rfl) (by kernel_rfl) (fun _ _ _ h => h) (Or.inl ⟨by kernel_rfl, ?_⟩) (by assumption) ?_
        rotate_left
        focus (intro w hSw; (try dsimp only at hSw); go_simp; try with_reducible rfl)
        try simp only [Act.put, List.setIfInBounds_toArray, List.set_cons_zero, List.set_cons_succ]
        refine wpAnyH_done (by kernel_rfl) ?_ _
        all_goals
          have HJ := Lib.hid (show Same (fun _ => False) wr w' by first | assumption | exact Same.refl _ _ | exact (Same.refl _ _).drew)
          have hdj := dcells HDB.out (HSRD.out.trans HJ.out (fun _ _ h => h))
          obtain ⟨x0, x1, x2, x3, _⟩ := hdj
          obtain ⟨hin, hll⟩ := keyOut_keys HO.out
          have HIN := Lib.hid hin; have HLL := Lib.hid hll
          clear hin hll m0 c0
          go_wp2_with fail
          refine (refOf_any (HR.out.keep (HSR.out.trans HJ.out (fun _ _ h => h.elim))) (HP.out.keep (HSR.out.trans HJ.out (fun _ _ h => h.elim))) HOK.out HSZ.out (by have := HL10.out; omega) (by have := HP8.out; omega) (fun p hp h0 => by rcases HIN.out p hp with h | h <;> omega)).mono ?_
          rintro e w10 ⟨u, rfl, hu, hs10⟩
          have HS10 := Lib.hid hs10; have HU := Lib.hid hu
          clear hs10 hu x0 x1 x2 x3
          go_wp2_with fail
          refine (tells_vals HS10.out HJ.out HKV.out HU.out HLL.out HIN.out HOK.out HSZ.out (by have := HP8.out; omega)).mono ?_
          rintro e w11 ⟨rfl, hs11⟩
          have HS11 := Lib.hid hs11
          clear hs11
          go_wp2_with fail
          go_ret
          exact ⟨rfl, same_to_below (((HSR.out.trans HJ.out (fun _ _ h => h.elim)).trans HS10.out (fun _ _ h => h.elim)).trans HS11.out (fun _ _ h => h.elim))⟩
      · skip
        have HO := Lib.hid hO
        rw [hO] at hbad
        subst hbad
        rw [hcalls] at hmt
        obtain ⟨hk1, rfl⟩ := tuple_inj2 hkv
        cases hk1
        have HSRD := Lib.hid (HS18.out.trans hs (fun _ _ h => h))
        have hmr := tells_meter hmt HW7.out
        obtain ⟨m0, _, _, _, _⟩ := meter_cells hmr
        have c0 := (dcells HDB.out HSRD.out).1
        have HCL := Lib.hid (fun (w' : World) (h : Same (fun _ => False) wr w') => class_errno 60 ((HGR.out.same hs id).same h id))
        clear hmt hmr hO hs hkv
        refine wp_region_held_drew (S := (fun w' => w'.cell? ⟨W.heap.size, 0, none⟩ = some (.string name) ∧ w'.cell? ⟨w2.heap.size, 0, none⟩ = some (.int .i64 cl) ∧ Same (fun _ => False) wr w')) (by kernel_rfl) ⟨c0, m0, (Same.refl _ _).drew⟩ (fun hHeld => ?_)
        refine take_at (i := 0) (v := ?_) rfl (by kernel_rfl) (by kernel_rfl) (by kernel_rfl) (fun _ _ _ h => h) (Or.inl ⟨by kernel_rfl, ?_⟩) (by assumption) ?_
        rotate_left
        focus (intro w hSw; (try dsimp only at hSw); go_simp; try with_reducible rfl)
        try simp only [Act.put, List.setIfInBounds_toArray, List.set_cons_zero, List.set_cons_succ]
        refine take_at (i := 2) (v := ?_) rfl (by kernel_rfl) (by kernel_rfl) (by kernel_rfl) (fun _ _ _ h => h) (Or.inl ⟨by kernel_rfl, ?_⟩) (by assumption) ?_
        rotate_left
        focus (intro w hSw; (try dsimp only at hSw); go_simp; try with_reducible rfl)
        try simp only [Act.put, List.setIfInBounds_toArray, List.set_cons_zero, List.set_cons_succ]
        refine wpAnyH_ready (rs := [1]) (by kernel_rfl) (by simp) ?_
        refine AllReadyH.cons rfl (fun K hK => ?_) AllReadyH.nil
        go_simp
        go_at_call 30
        refine (HCL.out _ ((Same.refl _ _).drew)).mono ?_
        rintro e w' ⟨rfl, hs'⟩
        have j3 : Same (fun _ => False) wr w' := Same.trans ((Same.refl _ _).drew) hs' (fun _ _ h => h)
        have j1 := ocell (a := ⟨W.heap.size, 0, none⟩) j3 c0 id
        have j2 := ocell (a := ⟨w2.heap.size, 0, none⟩) j3 m0 id
        try (go_wp2_with fail)
        refine hK.out _ _ ⟨j1, j2, j3⟩ (fun hHeld => ?_)
        clear hK K
        try simp only [Act.put, List.setIfInBounds_toArray, List.set_cons_zero, List.set_cons_succ]
        refine take_at (i := 3) (v := ?_) rfl (by kernel_rfl) (by kernel_rfl) (by kernel_rfl) (fun _ _ _ h => h) (Or.inl ⟨by kernel_rfl, ?_⟩) (by assumption) ?_
        rotate_left
        focus (intro w hSw; (try dsimp only at hSw); go_simp; try with_reducible rfl)
        try simp only [Act.put, List.setIfInBounds_toArray, List.set_cons_zero, List.set_cons_succ]
        refine take_at (i := 4) (v := ?_) rfl (by kernel_rfl) (by kernel_rfl) (by kernel_rfl) (fun _ _ _ h => h) (Or.inl ⟨by kernel_rfl, ?_⟩) (by assumption) ?_
        rotate_left
        focus (intro w hSw; (try dsimp only at hSw); go_simp; try with_reducible rfl)
        try simp only [Act.put, List.setIfInBounds_toArray, List.set_cons_zero, List.set_cons_succ]
        refine take_at (i := 5) (v := ?_) rfl (by kernel_rfl) (by kernel_rfl) (by kernel_rfl) (fun _ _ _ h => h) (Or.inl ⟨by kernel_rfl, ?_⟩) (by assumption) ?_
        rotate_left
        focus (intro w hSw; (try dsimp only at hSw); go_simp; try with_reducible rfl)
        try simp only [Act.put, List.setIfInBounds_toArray, List.set_cons_zero, List.set_cons_succ]
        refine take_at (i := 6) (v := ?_) rfl (by kernel_rfl) (by kernel_rfl) (by kernel_rfl) (fun _ _ _ h => h) (Or.inl ⟨by kernel_rfl, ?_⟩) (by assumption) ?_
        rotate_left
        focus (intro w hSw; (try dsimp only at hSw); go_simp; try with_reducible rfl)
        try simp only [Act.put, List.setIfInBounds_toArray, List.set_cons_zero, List.set_cons_succ]
        refine take_at (i := 7) (v := ?_) rfl (by kernel_rfl) (by kernel_rfl) (by kernel_rfl) (fun _ _ _ h => h) (Or.inl ⟨by kernel_rfl, ?_⟩) (by assumption) ?_
        rotate_left
        focus (intro w hSw; (try dsimp only at hSw); go_simp; try with_reducible rfl)
        try simp only [Act.put, List.setIfInBounds_toArray, List.set_cons_zero, List.set_cons_succ]
        refine take_at (i := 8) (v := ?_) rfl (by kernel_rfl) (by kernel_rfl) (by kernel_rfl) (fun _ _ _ h => h) (Or.inl ⟨by kernel_rfl, ?_⟩) (by assumption) ?_
        rotate_left
        focus (intro w hSw; (try dsimp only at hSw); go_simp; try with_reducible rfl)
        try simp only [Act.put, List.setIfInBounds_toArray, List.set_cons_zero, List.set_cons_succ]
        refine take_at (i := 9) (v := ?_) rfl (by kernel_rfl) (by kernel_rfl) (by kernel_rfl) (fun _ _ _ h => h) (Or.inl ⟨by kernel_rfl, ?_⟩) (by assumption) ?_
        rotate_left
        focus (intro w hSw; (try dsimp only at hSw); go_simp; try with_reducible rfl)
        try simp only [Act.put, List.setIfInBounds_toArray, List.set_cons_zero, List.set_cons_succ]
        refine take_at (i := 10) (v := ?_) rfl (by kernel_rfl) (by kernel_rfl) (by kernel_rfl) (fun _ _ _ h => h) (Or.inl ⟨by kernel_rfl, ?_⟩) (by assumption) ?_
        rotate_left
        focus (intro w hSw; (try dsimp only at hSw); go_simp; try with_reducible rfl)
        try simp only [Act.put, List.setIfInBounds_toArray, List.set_cons_zero, List.set_cons_succ]
        refine take_at (i := 11) (v := ?_) rfl (by kernel_rfl) (by kernel_rfl) (by kernel_rfl) (fun _ _ _ h => h) (Or.inl ⟨by kernel_rfl, ?_⟩) (by assumption) ?_
        rotate_left
        focus (intro w hSw; (try dsimp only at hSw); go_simp; try with_reducible rfl)
        try simp only [Act.put, List.setIfInBounds_toArray, List.set_cons_zero, List.set_cons_succ]
        refine take_at (i := 12) (v := ?_) rfl (by kernel_rfl) (by kernel_rfl) (by kernel_rfl) (fun _ _ _ h => h) (Or.inl ⟨by kernel_rfl, ?_⟩) (by assumption) ?_
        rotate_left
        focus (intro w hSw; (try dsimp only at hSw); go_simp; try with_reducible rfl)
        try simp only [Act.put, List.setIfInBounds_toArray, List.set_cons_zero, List.set_cons_succ]
        refine take_at (i := 13) (v := ?_) rfl (by kernel_rfl) (by kernel_rfl) (by kernel_rfl) (fun _ _ _ h => h) (Or.inl ⟨by kernel_rfl, ?_⟩) (by assumption) ?_
        rotate_left
        focus (intro w hSw; (try dsimp only at hSw); go_simp; try with_reducible rfl)
        try simp only [Act.put, List.setIfInBounds_toArray, List.set_cons_zero, List.set_cons_succ]
        refine take_at (i := 14) (v := ?_) rfl (by kernel_rfl) (by kernel_rfl) (by kernel_rfl) (fun _ _ _ h => h) (Or.inl ⟨by kernel_rfl, ?_⟩) (by assumption) ?_
        rotate_left
        focus (intro w hSw; (try dsimp only at hSw); go_simp; try with_reducible rfl)
        try simp only [Act.put, List.setIfInBounds_toArray, List.set_cons_zero, List.set_cons_succ]
        refine take_at (i := 15) (v := ?_) rfl (by kernel_rfl) (by kernel_rfl) (by kernel_rfl) (fun _ _ _ h => h) (Or.inl ⟨by kernel_rfl, ?_⟩) (by assumption) ?_
        rotate_left
        focus (intro w hSw; (try dsimp only at hSw); go_simp; try with_reducible rfl)
        try simp only [Act.put, List.setIfInBounds_toArray, List.set_cons_zero, List.set_cons_succ]
        refine take_at (i := 16) (v := ?_) rfl (by kernel_rfl) (by kernel_rfl) (by kernel_rfl) (fun _ _ _ h => h) (Or.inl ⟨by kernel_rfl, ?_⟩) (by assumption) ?_
        rotate_left
        focus (intro w hSw; (try dsimp only at hSw); go_simp; try with_reducible rfl)
        try simp only [Act.put, List.setIfInBounds_toArray, List.set_cons_zero, List.set_cons_succ]
        refine take_at (i := 17) (v := undef) rfl (by kernel_rfl) (by kernel_rfl) (by kernel_rfl) (fun _ _ _ h => h) (Or.inr ⟨by kernel_rfl, rfl⟩) (by assumption) ?_
        try simp only [Act.put, List.setIfInBounds_toArray, List.set_cons_zero, List.set_cons_succ]
        refine take_at (i := 19) (v := undef) rfl (by kernel_rfl) (by kernel_rfl) (by kernel_rfl) (fun _ _ _ h => h) (Or.inr ⟨by kernel_rfl, rfl⟩) (by assumption) ?_
        try simp only [Act.put, List.setIfInBounds_toArray, List.set_cons_zero, List.set_cons_succ]
        refine take_at (i := 20) (v := undef) rfl (by kernel_rfl) (by kernel_rfl) (by kernel_rfl) (fun _ _ _ h => h) (Or.inr ⟨by kernel_rfl, rfl⟩) (by assumption) ?_
        try simp only [Act.put, List.setIfInBounds_toArray, List.set_cons_zero, List.set_cons_succ]
        refine take_at (i := 18) (v := undef) rfl (by kernel_rfl) (by kernel_rfl) (by kernel_rfl) (fun _ _ _ h => h) (Or.inr ⟨by kernel_rfl, rfl⟩) (by assumption) ?_
        try simp only [Act.put, List.setIfInBounds_toArray, List.set_cons_zero, List.set_cons_succ]
        refine take_at (i := 21) (v := undef) rfl (by kernel_rfl) (by kernel_rfl) (by kernel_rfl) (fun _ _ _ h => h) (Or.inr ⟨by kernel_rfl, rfl⟩) (by assumption) ?_
        try simp only [Act.put, List.setIfInBounds_toArray, List.set_cons_zero, List.set_cons_succ]
        refine take_at (i := 22) (v := ?_) rfl (by kernel_rfl) (by kernel_rfl) (by kernel_rfl) (fun _ _ _ h => h) (Or.inl ⟨by kernel_rfl, ?_⟩) (by assumption) ?_
        rotate_left
        focus (intro w hSw; (try dsimp only at hSw); go_simp; try with_reducible rfl)
        try simp only [Act.put, List.setIfInBounds_toArray, List.set_cons_zero, List.set_cons_succ]
        refine take_at (i := 23) (v := ?_) rfl (by kernel_rfl) (by kernel_rfl) (by kernel_rfl) (fun _ _ _ h => h) (Or.inl ⟨by kernel_rfl, ?_⟩) (by assumption) ?_
        rotate_left
        focus (intro w hSw; (try dsimp only at hSw); go_simp; try with_reducible rfl)
        try simp only [Act.put, List.setIfInBounds_toArray, List.set_cons_zero, List.set_cons_succ]
        refine take_at (i := 24) (v := ?_) rfl (by kernel_rfl) (by kernel_rfl) (by kernel_rfl) (fun _ _ _ h => h) (Or.inl ⟨by kernel_rfl, ?_⟩) (by assumption) ?_
        rotate_left
        focus (intro w hSw; (try dsimp only at hSw); go_simp; try with_reducible rfl)
        try simp only [Act.put, List.setIfInBounds_toArray, List.set_cons_zero, List.set_cons_succ]
        refine take_at (i := 25) (v := ?_) rfl (by kernel_rfl) (by kernel_rfl) (by kernel_rfl) (fun _ _ _ h => h) (Or.inl ⟨by kernel_rfl, ?_⟩) (by assumption) ?_
        rotate_left
        focus (intro w hSw; (try dsimp only at hSw); go_simp; try with_reducible rfl)
        try simp only [Act.put, List.setIfInBounds_toArray, List.set_cons_zero, List.set_cons_succ]
        refine take_at (i := 26) (v := ?_) rfl (by kernel_rfl) (by kernel_rfl) (by kernel_rfl) (fun _ _ _ h => h) (Or.inl ⟨by kernel_rfl, ?_⟩) (by assumption) ?_
        rotate_left
        focus (intro w hSw; (try dsimp only at hSw); go_simp; try with_reducible rfl)
        try simp only [Act.put, List.setIfInBounds_toArray, List.set_cons_zero, List.set_cons_succ]
        refine take_at (i := 27) (v := ?_) rfl (by kernel_rfl) (by kernel_rfl) (by kernel_rfl) (fun _ _ _ h => h) (Or.inl ⟨by kernel_rfl, ?_⟩) (by assumption) ?_
        rotate_left
        focus (intro w hSw; (try dsimp only at hSw); go_simp; try with_reducible rfl)
        try simp only [Act.put, List.setIfInBounds_toArray, List.set_cons_zero, List.set_cons_succ]
        refine take_at (i := 28) (v := ?_) rfl (by kernel_rfl) (by kernel_rfl) (by kernel_rfl) (fun _ _ _ h => h) (Or.inl ⟨by kernel_rfl, ?_⟩) (by assumption) ?_
        rotate_left
        focus (intro w hSw; (try dsimp only at hSw); go_simp; try with_reducible rfl)
        try simp only [Act.put, List.setIfInBounds_toArray, List.set_cons_zero, List.set_cons_succ]
        refine take_at (i := 29) (v := ?_) rfl (by kernel_rfl) (by kernel_rfl) (by kernel_rfl) (fun _ _ _ h => h) (Or.inl ⟨by kernel_rfl, ?_⟩) (by assumption) ?_
        rotate_left
        focus (intro w hSw; (try dsimp only at hSw); go_simp; try with_reducible rfl)
        try simp only [Act.put, List.setIfInBounds_toArray, List.set_cons_zero, List.set_cons_succ]
        refine take_at (i := 30) (v := ?_) rfl (by kernel_rfl) (by kernel_rfl) (by kernel_rfl) (fun _ _ _ h => h) (Or.inl ⟨by kernel_rfl, ?_⟩) (by assumption) ?_
        rotate_left
        focus (intro w hSw; (try dsimp only at hSw); go_simp; try with_reducible rfl)
        try simp only [Act.put, List.setIfInBounds_toArray, List.set_cons_zero, List.set_cons_succ]
        refine take_at (i := 31) (v := ?_) rfl (by kernel_rfl) (by kernel_rfl) (by kernel_rfl) (fun _ _ _ h => h) (Or.inl ⟨by kernel_rfl, ?_⟩) (by assumption) ?_
        rotate_left
        focus (intro w hSw; (try dsimp only at hSw); go_simp; try with_reducible rfl)
        try simp only [Act.put, List.setIfInBounds_toArray, List.set_cons_zero, List.set_cons_succ]
        refine wpAnyH_done (by kernel_rfl) ?_ _
        all_goals
          have HJ := Lib.hid (show Same (fun _ => False) wr w' by first | assumption | exact Same.refl _ _ | exact (Same.refl _ _).drew)
          go_wp2_with fail
          go_ret
          exact ⟨rfl, same_to_below (HSR.out.trans HJ.out (fun _ _ h => h.elim))⟩
      · skip
        have HO := Lib.hid hO
        rw [hO] at hbad
        subst hbad
        rw [hcalls] at hmt
        obtain ⟨hk1, rfl⟩ := tuple_inj2 hkv
        cases hk1
        have HSRD := Lib.hid (HS18.out.trans hs (fun _ _ h => h))
        have hmr := tells_meter hmt HW7.out
        obtain ⟨m0, _, _, _, _⟩ := meter_cells hmr
        have c0 := (dcells HDB.out HSRD.out).1
        have HF := Lib.hid (HW7.out.obj hf id)
        have HCL := Lib.hid (fun (w' : World) (h : Same (fun _ => False) wr w') => class_fault (h.obj HF.out id) hfo ((HGR.out.same hs id).same h id))
        have HWH := Lib.hid (fun (w' : World) (h : Same (fun _ => False) wr w') => where_fault (h.obj HF.out id) hfo ((HGR.out.same hs id).same h id))
        clear hmt hmr hO hs hkv hf
        refine wp_region_held_drew (S := (fun w' => w'.cell? ⟨W.heap.size, 0, none⟩ = some (.string name) ∧ w'.cell? ⟨w2.heap.size, 0, none⟩ = some (.int .i64 cl) ∧ Same (fun _ => False) wr w')) (by kernel_rfl) ⟨c0, m0, (Same.refl _ _).drew⟩ (fun hHeld => ?_)
        refine take_at (i := 0) (v := ?_) rfl (by kernel_rfl) (by kernel_rfl) (by kernel_rfl) (fun _ _ _ h => h) (Or.inl ⟨by kernel_rfl, ?_⟩) (by assumption) ?_
        rotate_left
        focus (intro w hSw; (try dsimp only at hSw); go_simp; try with_reducible rfl)
        try simp only [Act.put, List.setIfInBounds_toArray, List.set_cons_zero, List.set_cons_succ]
        refine take_at (i := 2) (v := ?_) rfl (by kernel_rfl) (by kernel_rfl) (by kernel_rfl) (fun _ _ _ h => h) (Or.inl ⟨by kernel_rfl, ?_⟩) (by assumption) ?_
        rotate_left
        focus (intro w hSw; (try dsimp only at hSw); go_simp; try with_reducible rfl)
        try simp only [Act.put, List.setIfInBounds_toArray, List.set_cons_zero, List.set_cons_succ]
        refine wpAnyH_ready (rs := [1]) (by kernel_rfl) (by simp) ?_
        refine AllReadyH.cons rfl (fun K hK => ?_) AllReadyH.nil
        go_simp
        go_at_call 30
        refine (HCL.out _ ((Same.refl _ _).drew)).mono ?_
        rintro e w' ⟨rfl, hs'⟩
        have j3 : Same (fun _ => False) wr w' := Same.trans ((Same.refl _ _).drew) hs' (fun _ _ h => h)
        have j1 := ocell (a := ⟨W.heap.size, 0, none⟩) j3 c0 id
        have j2 := ocell (a := ⟨w2.heap.size, 0, none⟩) j3 m0 id
        try (go_wp2_with fail)
        refine hK.out _ _ ⟨j1, j2, j3⟩ (fun hHeld => ?_)
        clear hK K
        try simp only [Act.put, List.setIfInBounds_toArray, List.set_cons_zero, List.set_cons_succ]
        refine take_at (i := 3) (v := ?_) rfl (by kernel_rfl) (by kernel_rfl) (by kernel_rfl) (fun _ _ _ h => h) (Or.inl ⟨by kernel_rfl, ?_⟩) (by assumption) ?_
        rotate_left
        focus (intro w hSw; (try dsimp only at hSw); go_simp; try with_reducible rfl)
        try simp only [Act.put, List.setIfInBounds_toArray, List.set_cons_zero, List.set_cons_succ]
        refine take_at (i := 4) (v := ?_) rfl (by kernel_rfl) (by kernel_rfl) (by kernel_rfl) (fun _ _ _ h => h) (Or.inl ⟨by kernel_rfl, ?_⟩) (by assumption) ?_
        rotate_left
        focus (intro w hSw; (try dsimp only at hSw); go_simp; try with_reducible rfl)
        try simp only [Act.put, List.setIfInBounds_toArray, List.set_cons_zero, List.set_cons_succ]
        refine take_at (i := 5) (v := ?_) rfl (by kernel_rfl) (by kernel_rfl) (by kernel_rfl) (fun _ _ _ h => h) (Or.inl ⟨by kernel_rfl, ?_⟩) (by assumption) ?_
        rotate_left
        focus (intro w hSw; (try dsimp only at hSw); go_simp; try with_reducible rfl)
        try simp only [Act.put, List.setIfInBounds_toArray, List.set_cons_zero, List.set_cons_succ]
        refine take_at (i := 6) (v := ?_) rfl (by kernel_rfl) (by kernel_rfl) (by kernel_rfl) (fun _ _ _ h => h) (Or.inl ⟨by kernel_rfl, ?_⟩) (by assumption) ?_
        rotate_left
        focus (intro w hSw; (try dsimp only at hSw); go_simp; try with_reducible rfl)
        try simp only [Act.put, List.setIfInBounds_toArray, List.set_cons_zero, List.set_cons_succ]
        refine take_at (i := 7) (v := ?_) rfl (by kernel_rfl) (by kernel_rfl) (by kernel_rfl) (fun _ _ _ h => h) (Or.inl ⟨by kernel_rfl, ?_⟩) (by assumption) ?_
        rotate_left
        focus (intro w hSw; (try dsimp only at hSw); go_simp; try with_reducible rfl)
        try simp only [Act.put, List.setIfInBounds_toArray, List.set_cons_zero, List.set_cons_succ]
        refine take_at (i := 8) (v := ?_) rfl (by kernel_rfl) (by kernel_rfl) (by kernel_rfl) (fun _ _ _ h => h) (Or.inl ⟨by kernel_rfl, ?_⟩) (by assumption) ?_
        rotate_left
        focus (intro w hSw; (try dsimp only at hSw); go_simp; try with_reducible rfl)
        try simp only [Act.put, List.setIfInBounds_toArray, List.set_cons_zero, List.set_cons_succ]
        refine take_at (i := 9) (v := ?_) rfl (by kernel_rfl) (by kernel_rfl) (by kernel_rfl) (fun _ _ _ h => h) (Or.inl ⟨by kernel_rfl, ?_⟩) (by assumption) ?_
        rotate_left
        focus (intro w hSw; (try dsimp only at hSw); go_simp; try with_reducible rfl)
        try simp only [Act.put, List.setIfInBounds_toArray, List.set_cons_zero, List.set_cons_succ]
        refine take_at (i := 10) (v := ?_) rfl (by kernel_rfl) (by kernel_rfl) (by kernel_rfl) (fun _ _ _ h => h) (Or.inl ⟨by kernel_rfl, ?_⟩) (by assumption) ?_
        rotate_left
        focus (intro w hSw; (try dsimp only at hSw); go_simp; try with_reducible rfl)
        try simp only [Act.put, List.setIfInBounds_toArray, List.set_cons_zero, List.set_cons_succ]
        refine take_at (i := 11) (v := ?_) rfl (by kernel_rfl) (by kernel_rfl) (by kernel_rfl) (fun _ _ _ h => h) (Or.inl ⟨by kernel_rfl, ?_⟩) (by assumption) ?_
        rotate_left
        focus (intro w hSw; (try dsimp only at hSw); go_simp; try with_reducible rfl)
        try simp only [Act.put, List.setIfInBounds_toArray, List.set_cons_zero, List.set_cons_succ]
        refine take_at (i := 12) (v := ?_) rfl (by kernel_rfl) (by kernel_rfl) (by kernel_rfl) (fun _ _ _ h => h) (Or.inl ⟨by kernel_rfl, ?_⟩) (by assumption) ?_
        rotate_left
        focus (intro w hSw; (try dsimp only at hSw); go_simp; try with_reducible rfl)
        try simp only [Act.put, List.setIfInBounds_toArray, List.set_cons_zero, List.set_cons_succ]
        refine take_at (i := 13) (v := ?_) rfl (by kernel_rfl) (by kernel_rfl) (by kernel_rfl) (fun _ _ _ h => h) (Or.inl ⟨by kernel_rfl, ?_⟩) (by assumption) ?_
        rotate_left
        focus (intro w hSw; (try dsimp only at hSw); go_simp; try with_reducible rfl)
        try simp only [Act.put, List.setIfInBounds_toArray, List.set_cons_zero, List.set_cons_succ]
        refine take_at (i := 14) (v := ?_) rfl (by kernel_rfl) (by kernel_rfl) (by kernel_rfl) (fun _ _ _ h => h) (Or.inl ⟨by kernel_rfl, ?_⟩) (by assumption) ?_
        rotate_left
        focus (intro w hSw; (try dsimp only at hSw); go_simp; try with_reducible rfl)
        try simp only [Act.put, List.setIfInBounds_toArray, List.set_cons_zero, List.set_cons_succ]
        refine take_at (i := 15) (v := ?_) rfl (by kernel_rfl) (by kernel_rfl) (by kernel_rfl) (fun _ _ _ h => h) (Or.inl ⟨by kernel_rfl, ?_⟩) (by assumption) ?_
        rotate_left
        focus (intro w hSw; (try dsimp only at hSw); go_simp; try with_reducible rfl)
        try simp only [Act.put, List.setIfInBounds_toArray, List.set_cons_zero, List.set_cons_succ]
        refine take_at (i := 16) (v := ?_) rfl (by kernel_rfl) (by kernel_rfl) (by kernel_rfl) (fun _ _ _ h => h) (Or.inl ⟨by kernel_rfl, ?_⟩) (by assumption) ?_
        rotate_left
        focus (intro w hSw; (try dsimp only at hSw); go_simp; try with_reducible rfl)
        try simp only [Act.put, List.setIfInBounds_toArray, List.set_cons_zero, List.set_cons_succ]
        refine take_at (i := 17) (v := ?_) rfl (by kernel_rfl) (by kernel_rfl) (by kernel_rfl) (fun _ _ _ h => h) (Or.inl ⟨by kernel_rfl, ?_⟩) (by assumption) ?_
        rotate_left
        focus (intro w hSw; (try dsimp only at hSw); go_simp; try with_reducible rfl)
        try simp only [Act.put, List.setIfInBounds_toArray, List.set_cons_zero, List.set_cons_succ]
        refine take_at (i := 19) (v := ?_) rfl (by kernel_rfl) (by kernel_rfl) (by kernel_rfl) (fun _ _ _ h => h) (Or.inl ⟨by kernel_rfl, ?_⟩) (by assumption) ?_
        rotate_left
        focus (intro w hSw; (try dsimp only at hSw); go_simp; try with_reducible rfl)
        try simp only [Act.put, List.setIfInBounds_toArray, List.set_cons_zero, List.set_cons_succ]
        refine take_at (i := 20) (v := ?_) rfl (by kernel_rfl) (by kernel_rfl) (by kernel_rfl) (fun _ _ _ h => h) (Or.inl ⟨by kernel_rfl, ?_⟩) (by assumption) ?_
        rotate_left
        focus (intro w hSw; (try dsimp only at hSw); go_simp; try with_reducible rfl)
        try simp only [Act.put, List.setIfInBounds_toArray, List.set_cons_zero, List.set_cons_succ]
        refine wpAnyH_ready (rs := [18]) (by kernel_rfl) (by simp) ?_
        refine AllReadyH.cons rfl (fun K hK => ?_) AllReadyH.nil
        go_simp
        go_at_call 31
        refine (HWH.out _ (j3)).mono ?_
        rintro e w' ⟨rfl, hs'⟩
        have j3 : Same (fun _ => False) wr w' := Same.trans (j3) hs' (fun _ _ h => h)
        have j1 := ocell (a := ⟨W.heap.size, 0, none⟩) j3 c0 id
        have j2 := ocell (a := ⟨w2.heap.size, 0, none⟩) j3 m0 id
        try (go_wp2_with fail)
        refine hK.out _ _ ⟨j1, j2, j3⟩ (fun hHeld => ?_)
        clear hK K
        try simp only [Act.put, List.setIfInBounds_toArray, List.set_cons_zero, List.set_cons_succ]
        refine take_at (i := 21) (v := ?_) rfl (by kernel_rfl) (by kernel_rfl) (by kernel_rfl) (fun _ _ _ h => h) (Or.inl ⟨by kernel_rfl, ?_⟩) (by assumption) ?_
        rotate_left
        focus (intro w hSw; (try dsimp only at hSw); go_simp; try with_reducible rfl)
        try simp only [Act.put, List.setIfInBounds_toArray, List.set_cons_zero, List.set_cons_succ]
        refine take_at (i := 22) (v := ?_) rfl (by kernel_rfl) (by kernel_rfl) (by kernel_rfl) (fun _ _ _ h => h) (Or.inl ⟨by kernel_rfl, ?_⟩) (by assumption) ?_
        rotate_left
        focus (intro w hSw; (try dsimp only at hSw); go_simp; try with_reducible rfl)
        try simp only [Act.put, List.setIfInBounds_toArray, List.set_cons_zero, List.set_cons_succ]
        refine take_at (i := 23) (v := ?_) rfl (by kernel_rfl) (by kernel_rfl) (by kernel_rfl) (fun _ _ _ h => h) (Or.inl ⟨by kernel_rfl, ?_⟩) (by assumption) ?_
        rotate_left
        focus (intro w hSw; (try dsimp only at hSw); go_simp; try with_reducible rfl)
        try simp only [Act.put, List.setIfInBounds_toArray, List.set_cons_zero, List.set_cons_succ]
        refine take_at (i := 24) (v := ?_) rfl (by kernel_rfl) (by kernel_rfl) (by kernel_rfl) (fun _ _ _ h => h) (Or.inl ⟨by kernel_rfl, ?_⟩) (by assumption) ?_
        rotate_left
        focus (intro w hSw; (try dsimp only at hSw); go_simp; try with_reducible rfl)
        try simp only [Act.put, List.setIfInBounds_toArray, List.set_cons_zero, List.set_cons_succ]
        refine take_at (i := 25) (v := ?_) rfl (by kernel_rfl) (by kernel_rfl) (by kernel_rfl) (fun _ _ _ h => h) (Or.inl ⟨by kernel_rfl, ?_⟩) (by assumption) ?_
        rotate_left
        focus (intro w hSw; (try dsimp only at hSw); go_simp; try with_reducible rfl)
        try simp only [Act.put, List.setIfInBounds_toArray, List.set_cons_zero, List.set_cons_succ]
        refine take_at (i := 26) (v := ?_) rfl (by kernel_rfl) (by kernel_rfl) (by kernel_rfl) (fun _ _ _ h => h) (Or.inl ⟨by kernel_rfl, ?_⟩) (by assumption) ?_
        rotate_left
        focus (intro w hSw; (try dsimp only at hSw); go_simp; try with_reducible rfl)
        try simp only [Act.put, List.setIfInBounds_toArray, List.set_cons_zero, List.set_cons_succ]
        refine take_at (i := 27) (v := ?_) rfl (by kernel_rfl) (by kernel_rfl) (by kernel_rfl) (fun _ _ _ h => h) (Or.inl ⟨by kernel_rfl, ?_⟩) (by assumption) ?_
        rotate_left
        focus (intro w hSw; (try dsimp only at hSw); go_simp; try with_reducible rfl)
        try simp only [Act.put, List.setIfInBounds_toArray, List.set_cons_zero, List.set_cons_succ]
        refine take_at (i := 28) (v := ?_) rfl (by kernel_rfl) (by kernel_rfl) (by kernel_rfl) (fun _ _ _ h => h) (Or.inl ⟨by kernel_rfl, ?_⟩) (by assumption) ?_
        rotate_left
        focus (intro w hSw; (try dsimp only at hSw); go_simp; try with_reducible rfl)
        try simp only [Act.put, List.setIfInBounds_toArray, List.set_cons_zero, List.set_cons_succ]
        refine take_at (i := 29) (v := ?_) rfl (by kernel_rfl) (by kernel_rfl) (by kernel_rfl) (fun _ _ _ h => h) (Or.inl ⟨by kernel_rfl, ?_⟩) (by assumption) ?_
        rotate_left
        focus (intro w hSw; (try dsimp only at hSw); go_simp; try with_reducible rfl)
        try simp only [Act.put, List.setIfInBounds_toArray, List.set_cons_zero, List.set_cons_succ]
        refine take_at (i := 30) (v := ?_) rfl (by kernel_rfl) (by kernel_rfl) (by kernel_rfl) (fun _ _ _ h => h) (Or.inl ⟨by kernel_rfl, ?_⟩) (by assumption) ?_
        rotate_left
        focus (intro w hSw; (try dsimp only at hSw); go_simp; try with_reducible rfl)
        try simp only [Act.put, List.setIfInBounds_toArray, List.set_cons_zero, List.set_cons_succ]
        refine take_at (i := 31) (v := ?_) rfl (by kernel_rfl) (by kernel_rfl) (by kernel_rfl) (fun _ _ _ h => h) (Or.inl ⟨by kernel_rfl, ?_⟩) (by assumption) ?_
        rotate_left
        focus (intro w hSw; (try dsimp only at hSw); go_simp; try with_reducible rfl)
        try simp only [Act.put, List.setIfInBounds_toArray, List.set_cons_zero, List.set_cons_succ]
        refine wpAnyH_done (by kernel_rfl) ?_ _
        all_goals
          have HJ := Lib.hid (show Same (fun _ => False) wr w' by first | assumption | exact Same.refl _ _ | exact (Same.refl _ _).drew)
          go_wp2_with fail
          go_ret
          exact ⟨rfl, same_to_below (HSR.out.trans HJ.out (fun _ _ h => h.elim))⟩

end Go.Proofs.YtcbapmkipcffgaaDoor
