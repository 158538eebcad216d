/-
  ordidx: the questions of Find and Rank; Find. Conditions: few entries; the comparator doesn't fail.
-/
import Derived.Test.YtgfmemggfbgjeaaGreatDoorM36
namespace Go.Proofs.YtgfmemggfbgjeaaGreatDoor
open Go.RowKit Go.Extern.Stop Go.Stop Go.Extern Go.Lib
set_option maxRecDepth 1000000

def cmpI (m n : Int) : Int := if m < n then -1 else if n < m then 1 else 0

theorem isnan_i64 (m : Int) (w : World) : Calls Tryz.prog 68 #[.int .i64 m] w fun e w' => e = .returned (.bool false) ∧ w = w' := by
  go_enter Tryz.func68, Tryz.ntmps68
  go_wp2_with fail
  go_ret
  exact ⟨by simp, rfl⟩

theorem ccmp_i64 (m n : Int) (w : World) : Calls Tryz.prog 44 #[.int .i64 m, .int .i64 n] w fun e w' => e = .returned (.int .i64 (cmpI m n)) ∧ w = w' := by
  go_enter Tryz.func44, Tryz.ntmps44
  by_cases h1 : m < n
  · go_wp2_with (first | (go_at_call 68; refine (isnan_i64 _ _).mono ?_; rintro e w0 ⟨rfl, rfl⟩))
    go_ret
    exact ⟨ret_i64 (by unfold cmpI; split <;> (try split) <;> omega), rfl⟩
  · by_cases h2 : n < m
    · go_wp2_with (first | (go_at_call 68; refine (isnan_i64 _ _).mono ?_; rintro e w0 ⟨rfl, rfl⟩))
      go_ret
      exact ⟨ret_i64 (by unfold cmpI; split <;> (try split) <;> omega), rfl⟩
    · go_wp2_with (first | (go_at_call 68; refine (isnan_i64 _ _).mono ?_; rintro e w0 ⟨rfl, rfl⟩))
      go_ret
      exact ⟨ret_i64 (by unfold cmpI; split <;> (try split) <;> omega), rfl⟩

theorem cor_any {w : World} {b : Nat} {p q : Int} (hb : w.heap[b]? = some (.cells #[.int .i64 p, .int .i64 q] 3 (0, 0))) :
    Calls Tryz.prog 43 #[.slice (some ⟨b, 0, none⟩) 2 2] w fun e w' => e = .returned (.int .i64 (if p ≠ 0 then p else q)) ∧ w = w' := by
  obtain ⟨c0, c1, _, _⟩ := ent_cells hb
  have hlb := lt_of_block hb
  clear hb
  go_enter Tryz.func43, Tryz.ntmps43
  go_wp2_with fail
  go_loopg [5, 8] 2 (fun rr _ vi wr => ∃ (j : Nat), j + rr = 2 ∧ vi = .int .i64 j ∧ (j = 0 ∨ (1 ≤ j ∧ p = 0 ∧ (j = 1 ∨ q = 0))) ∧ w = wr)
  case atStart => exact ⟨0, by omega, rfl, Or.inl rfl, rfl⟩
  case round =>
    obtain ⟨j, hj, rfl, hp, rfl⟩ := hrel
    match j, hj, hp with
    | 0, hj, hp =>
      by_cases h0 : p = 0
      · go_wp2_with fail
        go_roundg 1
        case measure => omega
        case rel => exact ⟨1, by omega, by go_num, Or.inr ⟨by omega, h0, Or.inl rfl⟩, rfl⟩
      · go_wp2_with fail
        go_ret
        exact ⟨by first | rfl | simp [h0], rfl⟩
    | 1, hj, hp =>
      have h0 : p = 0 := by omega
      by_cases h1 : q = 0
      · go_wp2_with fail
        go_roundg 0
        case measure => omega
        case rel => exact ⟨2, by omega, by go_num, Or.inr ⟨by omega, h0, Or.inr h1⟩, rfl⟩
      · go_wp2_with fail
        go_ret
        exact ⟨by first | rfl | simp [h0], rfl⟩
    | 2, hj, hp =>
      have h0 : p = 0 := by omega
      have h1 : q = 0 := by omega
      go_wp2_with fail
      go_ret
      exact ⟨by first | rfl | simp [h0, h1], rfl⟩
    | j + 3, hj, hp => omega

theorem so_from (mp : Value) (w : World) : SoIs mp 40 #[] (fun c _ => decide (0 ≤ c)) w := by
  intro w' c i _ _ _
  show Calls Tryz.prog 40 #[.int .i64 c, .int .i64 i] w' _
  go_enter Tryz.func40, Tryz.ntmps40
  go_wp2_with fail
  go_ret
  exact ⟨rfl, Same.refl _ _⟩

theorem so_to (mp : Value) (w : World) : SoIs mp 41 #[] (fun c _ => decide (0 < c)) w := by
  intro w' c i _ _ _
  show Calls Tryz.prog 41 #[.int .i64 c, .int .i64 i] w' _
  go_enter Tryz.func41, Tryz.ntmps41
  go_wp2_with fail
  go_ret
  exact ⟨rfl, Same.refl _ _⟩

theorem so_rank {mp : Value} {w : World} {b : Nat} {id cc a h s : Int} (hm : MAt w mp cc a h s) (hb : One w b (.int .i64 id) 2) : SoIs mp 42 #[.pointer (some ⟨b, 0, none⟩)] (fun c i => decide (0 ≤ if c ≠ 0 then c else cmpI i id)) w := by
  intro w' c i hs _ _
  have hb' := hs.one hb (hm.ne_one hb)
  have c0 := hb'.cell
  have hl := lt_of_block hb'
  show Calls Tryz.prog 42 #[.int .i64 c, .int .i64 i, .pointer (some ⟨b, 0, none⟩)] w' _
  have HO := Lib.hid (cor_any (w := w'.alloc (.cells #[.int .i64 c, .int .i64 (cmpI i id)] 3)) (b := w'.heap.size) (p := c) (q := cmpI i id) (heap_alloc_new _ _))
  have HS := Lib.hid ((Same.refl (fun _ => False) w').alloc (.cells #[.int .i64 c, .int .i64 (cmpI i id)] 3))
  have HC := Lib.hid (ccmp_i64 i id w')
  clear hb' hs hb hm
  suffices key : ∀ q, (if c ≠ 0 then c else cmpI i id) = q → Calls Tryz.prog 42 #[.int .i64 c, .int .i64 i, .pointer (some ⟨b, 0, none⟩)] w' fun r w'' => r = .returned (.bool (decide (0 ≤ q))) ∧ Same (fun _ => False) w' w'' from key _ rfl
  intro q hq
  rw [hq] at HO
  clear hq
  generalize cmpI i id = z at *
  go_enter Tryz.func42, Tryz.ntmps42
  go_wp2_with fail
  refine HC.out.mono ?_
  rintro e w1 ⟨rfl, rfl⟩
  go_wp2_with fail
  refine HO.out.mono ?_
  rintro e w1 ⟨rfl, rfl⟩
  go_wp2_with fail
  go_ret
  exact ⟨rfl, HS.out⟩

/-- What Find answers. -/
def FindEnd (w : World) (mp : Value) (a h s : Int) (L : List En) (n : Int) (K : List V) (r : Ending) (w' : World) : Prop :=
  ∃ (i k : Nat) (c' : Int), r = .returned (.tuple #[.int .i64 i, .int .i64 k, .nilIface]) ∧ i ≤ L.length ∧ k ≤ L.length ∧ (∀ y ∈ L.take i, cmpR n y.kv K < 0) ∧ (∀ y ∈ L.drop i, 0 ≤ cmpR n y.kv K) ∧ (∀ y ∈ L.take k, cmpR n y.kv K ≤ 0) ∧ (∀ y ∈ L.drop k, 0 < cmpR n y.kv K) ∧ Same (Blk mp) w w' ∧ MAt w' mp c' a h s

theorem find_calm {w : World} {P : Nat → Prop} {x t bm bn : Nat} {uq : Bool} {v mp : Value} {K : List V} {L : List En} {n a c cc h s : Int} (hO : OxAt w P x t bm bn uq mp n a L c) (hm : MAt w mp cc a h s) (hK : KeyOk w mp v K) (hL : L.length ≤ 90000)
    (h1 : L.Pairwise (fun x y => 0 ≤ cmpR n x.kv K → 0 ≤ cmpR n y.kv K)) (h2 : L.Pairwise (fun x y => 0 < cmpR n x.kv K → 0 < cmpR n y.kv K)) :
    Calls Tryz.prog 16 #[.pointer (some ⟨x, 0, none⟩), v] w fun r w' => FindEnd w mp a h s L n K r w' := by
  have e1 : ∀ args w, (callFunc 40 args).run Tryz.prog w = .ok (.enter 40 args) w := Go.Proofs.enters_of Tryz.func40 (by kernel_rfl) rfl
  have e2 : ∀ args w, (callFunc 41 args).run Tryz.prog w = .ok (.enter 41 args) w := Go.Proofs.enters_of Tryz.func41 (by kernel_rfl) rfl
  have HS1 := Lib.hid (search_calm (d := fun c _ => decide (0 ≤ c)) hO hm hK (so_from mp w) e1 hL (h1.imp (fun {x y} h hx => by simp only [soOf, decide_eq_true_eq] at hx ⊢; have := h (by omega); omega)))
  have HS2 := Lib.hid (fun (W : World) (c' : Int) (hs : Same (Blk mp) w W) (hm' : MAt W mp c' a h s) => search_calm (d := fun c _ => decide (0 < c)) (hO.kept hm hs) hm' (hK.kept hs hK.mt) (so_to mp W) e2 hL (h2.imp (fun {x y} h hx => by simp only [soOf, decide_eq_true_eq] at hx ⊢; have := h (by omega); omega)))
  obtain ⟨vo, vc, rfl⟩ := readV_len hK.rd
  clear hO hm hK h1 h2 e1 e2
  go_enter Tryz.func16, Tryz.ntmps16
  go_wp2_with fail
  refine HS1.out.mono ?_
  rintro r w1 ⟨i, c1, rfl, hi, f1, f2, hs1, hm1⟩
  have HT := Lib.hid (HS2.out w1 c1 hs1 hm1)
  have HF1 := Lib.hid f1; have HF2 := Lib.hid f2; have HSA := Lib.hid hs1
  clear f1 f2 hs1 hm1
  go_wp2_with fail
  refine HT.out.mono ?_
  rintro r w2 ⟨k, c2, rfl, hk, f3, f4, hs2, hm2⟩
  have HF3 := Lib.hid f3; have HF4 := Lib.hid f4; have HSB := Lib.hid (HSA.out.trans hs2 (fun _ _ h => h)); have HM2 := Lib.hid hm2
  clear f3 f4 hs2 hm2
  go_wp2_with fail
  go_ret3
  refine ⟨i, k, c2, rfl, hi, hk, fun y hy => ?_, fun y hy => ?_, fun y hy => ?_, fun y hy => ?_, HSB.out, HM2.out⟩
  · have := HF1.out y hy; simp only [soOf, decide_eq_false_iff_not] at this; omega
  · have := HF2.out y hy; simp only [soOf, decide_eq_true_eq] at this; omega
  · have := HF3.out y hy; simp only [soOf, decide_eq_false_iff_not] at this; omega
  · have := HF4.out y hy; simp only [soOf, decide_eq_true_eq] at this; omega

/-- The order of entries, by the comparator, then by their rows' numbers: an entry against a key and a number. -/
def rankC (n : Int) (K : List V) (rid : Int) (e : En) : Int := if cmpR n e.kv K ≠ 0 then cmpR n e.kv K else cmpI e.id rid

/-- What Rank answers. -/
def RankEnd (w : World) (mp : Value) (a h s : Int) (L : List En) (n : Int) (K : List V) (rid : Int) (r : Ending) (w' : World) : Prop :=
  ∃ (i : Nat) (b : Bool) (c' : Int), r = .returned (.tuple #[.int .i64 i, .bool b, .nilIface]) ∧ i ≤ L.length ∧ (∀ y ∈ L.take i, rankC n K rid y < 0) ∧ (∀ y ∈ L.drop i, 0 ≤ rankC n K rid y) ∧ (b = true ↔ ∃ y, L[i]? = some y ∧ y.id = rid ∧ cmpR n y.kv K = 0) ∧ Same (Blk mp) w w' ∧ MAt w' mp c' a h s

set_option maxHeartbeats 8000000 in
theorem rank_calm {w0 : World} {P : Nat → Prop} {x t bm bn : Nat} {uq : Bool} {v mp : Value} {K : List V} {L : List En} {n a c cc h s rid : Int} (hO0 : OxAt w0 P x t bm bn uq mp n a L c) (hm0 : MAt w0 mp cc a h s) (hK0 : KeyOk w0 mp v K) (hL : L.length ≤ 90000)
    (h1 : L.Pairwise (fun x y => 0 ≤ rankC n K rid x → 0 ≤ rankC n K rid y)) :
    Calls Tryz.prog 17 #[.pointer (some ⟨x, 0, none⟩), v, .int .i64 rid] w0 fun r w' => RankEnd w0 mp a h s L n K rid r w' := by
  obtain ⟨w, hw⟩ : ∃ w, w = w0.alloc (.cells #[.int .i64 rid] 2) := ⟨_, rfl⟩
  have hsb : Same (fun _ => False) w0 w := by rw [hw]; exact (Same.refl _ w0).alloc _
  have hsb' : Same (Blk mp) w0 w := hsb.weaken (fun _ _ h => h.elim)
  have hO := hO0.kept hm0 hsb'
  have hm : MAt w mp cc a h s := hm0.same hsb (fun _ _ => id)
  have hK := hK0.kept hsb (fun _ _ => id)
  have hob : One w w0.heap.size (.int .i64 rid) 2 := by rw [hw]; exact One.new _ _ _
  have e1 : ∀ args w, (callFunc 42 args).run Tryz.prog w = .ok (.enter 42 args) w := Go.Proofs.enters_of Tryz.func42 (by kernel_rfl) rfl
  have hd : ∀ y : En, (0 ≤ if 7 * cmpR n y.kv K ≠ 0 then 7 * cmpR n y.kv K else cmpI y.id rid) ↔ 0 ≤ rankC n K rid y := fun y => by
    unfold rankC
    by_cases h0 : cmpR n y.kv K = 0
    · rw [if_neg (by omega), if_neg (by omega)]
    · rw [if_pos (by omega), if_pos h0]; omega
  have HS1 := Lib.hid (search_calm (d := fun c i => decide (0 ≤ if c ≠ 0 then c else cmpI i rid)) hO hm hK (so_rank hm hob) e1 hL (h1.imp (fun {x y} h hx => by simp only [soOf, decide_eq_true_eq] at hx ⊢; exact (hd y).2 (h ((hd x).1 hx)))))
  have HD := Lib.hid hd
  have HK2 := Lib.hid (fun (W : World) (hs : Same (Blk mp) w W) => And.intro (hO.kept hm hs) (And.intro (hK.kept hs hK.mt) (hs.one hob (hm.ne_one hob))))
  obtain ⟨vo, vc, rfl⟩ := readV_len hK.rd
  have HW := Lib.hid hw; have HSB := Lib.hid hsb'
  clear hO hm hK hO0 hm0 hK0 h1 e1 hw hsb hsb' hob hd
  go_enter Tryz.func17, Tryz.ntmps17
  go_upto_region 1 with fail
  rw [← HW.out]
  go_wp2_with fail
  refine HS1.out.mono ?_
  rintro r w1 ⟨i, c1, rfl, hi, f1, f2, hs1, hm1⟩
  obtain ⟨hO1, hK1, hb1⟩ := HK2.out w1 hs1
  obtain ⟨i0, i1, i2, il⟩ := idx_cells hO1.idx
  have hf1 : ∀ y ∈ L.take i, rankC n K rid y < 0 := fun y hy => by
    have h := f1 y hy
    simp only [soOf, decide_eq_false_iff_not] at h
    exact Int.not_le.1 (fun h0 => h ((HD.out y).2 h0))
  have hf2 : ∀ y ∈ L.drop i, 0 ≤ rankC n K rid y := fun y hy => by
    have h := f2 y hy
    simp only [soOf, decide_eq_true_eq] at h
    exact (HD.out y).1 h
  have HF1 := Lib.hid hf1; have HF2 := Lib.hid hf2
  have HSA := Lib.hid (HSB.out.trans hs1 (fun _ _ h => h))
  clear f1 f2 hf1 hf2
  by_cases hil : i < L.length
  · have HAT := Lib.hid (tree_at hO1.tree hL hil)
    have hyi : L[i]? = some L[i] := List.getElem?_eq_getElem hil
    have hyk := hO1.keys L[i] (List.getElem_mem hil)
    generalize L[i] = y at *
    have HM1 := Lib.hid hm1; have HB1 := Lib.hid hb1; have HYK := Lib.hid hyk; have HO1 := Lib.hid hO1; have HK1 := Lib.hid hK1; have HYI := Lib.hid hyi
    clear hs1 hm1 hb1 hyk hO1 hK1 hyi
    go_wp2_with fail
    refine HAT.out.mono ?_
    rintro r w2 ⟨rfl, hs2⟩
    obtain ⟨w3, hw3⟩ : ∃ w3, w3 = w2.alloc (entObj y) := ⟨_, rfl⟩
    have hs3 : Same (fun _ => False) w1 w3 := by rw [hw3]; exact hs2.alloc _
    have hyb : w3.heap[w2.heap.size]? = some (entObj y) := by rw [hw3]; exact heap_alloc_new _ _
    obtain ⟨y0, y1, _, _⟩ := ent_cells hyb
    have hyl := lt_of_block hyb
    have hb3 := hs3.one HB1.out id
    have b3 := hb3.cell
    have l3 := lt_of_block hb3
    have hi3 := hs3.obj HO1.out.idx id
    obtain ⟨j0, j1, j2, jl⟩ := idx_cells hi3
    have hm3 : MAt w3 mp c1 a h s := HM1.out.same hs3 (fun _ _ => id)
    have hd3 : Same (fun _ => False) w3 w3.drew := (Same.refl (fun _ => False) w3).drew
    have hsd := hs3.trans hd3 (fun _ _ h => h)
    have HC := Lib.hid (cmp_calm (HYK.out.kept hsd (fun _ _ => id)) (HK1.out.kept hsd (fun _ _ => id)) (hsd.one HO1.out.bm id) (hsd.one HO1.out.bn id) (hm3.same hd3 (fun _ _ => id)) HO1.out.sm HO1.out.calm)
    have HM3 := Lib.hid hm3; have HS3 := Lib.hid (HSA.out.trans hs3 (fun _ _ h => h.elim)); have HW3 := Lib.hid hw3
    have eg1 := cmpr_enter
    clear hs2 hw3 hs3 hyb hb3 hi3 hm3 hd3 hsd
    go_upto_region 5 with fail
    rw [← HW3.out]
    by_cases hyr : y.id = rid
    · have e5 : (y.id != rid) = false := by simp [hyr]
      have HYR := Lib.hid hyr
      obtain ⟨q, hq⟩ : ∃ q, cmpR n y.kv K = q := ⟨_, rfl⟩
      rw [hq] at HC
      have HQ := Lib.hid hq
      clear hyr hq
      go_wp2_with fail
      go_region_with (first | (go_at_call 55; refine HC.out.mono ?_; rintro r w4 ⟨rfl, hs4, hm4⟩; have HM4 := Lib.hid hm4; have HS4 := Lib.hid (HS3.out.trans (((Same.refl (Blk mp) w3).drew).trans hs4 (fun _ _ h => h)) (fun _ _ h => h)); clear hs4 hm4))
      all_goals go_wp2_with fail
      all_goals (
        go_ret3
        refine ⟨i, decide (7 * q = 0), _, by first | rfl | simp, hi, HF1.out, HF2.out, ⟨fun h => ⟨y, HYI.out, HYR.out, ?_⟩, fun ⟨z, hz, _, hz2⟩ => ?_⟩, HS4.out, HM4.out⟩
        · rw [HQ.out]
          simp at h
          omega
        · rw [HYI.out] at hz
          cases hz
          rw [HQ.out] at hz2
          simp [hz2])
    · have e5 : (y.id != rid) = true := by simp [hyr]
      have HYR := Lib.hid hyr
      clear hyr
      go_wp2_with fail
      go_ret3
      exact ⟨i, false, c1, rfl, hi, HF1.out, HF2.out, ⟨fun h => (by cases h), fun ⟨z, hz, hz1, _⟩ => (by rw [HYI.out] at hz; cases hz; exact absurd hz1 HYR.out)⟩, HS3.out, HM3.out⟩
  · have HAT := Lib.hid (tree_at_no (i := (i : Int)) hO1.tree (Or.inr (by omega)))
    have HM1 := Lib.hid hm1
    clear hs1 hm1 hb1 hO1 hK1
    go_wp2_with fail
    refine HAT.out.mono ?_
    rintro r w2 ⟨rfl, hs2⟩
    have HS2 := Lib.hid ((HSA.out.trans hs2 (fun _ _ h => h.elim)).alloc (entObj En.nil)); have HM2 := Lib.hid ((HM1.out.same hs2 (fun _ _ => id)).same ((Same.refl (fun _ => False) w2).alloc (entObj En.nil)) (fun _ _ => id))
    clear hs2
    go_wp2_with fail
    go_ret3
    refine ⟨i, false, c1, rfl, hi, HF1.out, HF2.out, ⟨fun h => (by cases h), fun ⟨y, hy, _⟩ => (by rw [List.getElem?_eq_none (by omega)] at hy; cases hy)⟩, HS2.out, HM2.out⟩

end Go.Proofs.YtgfmemggfbgjeaaGreatDoor
