/-
  HookObserves: an observer is handed a change, whatever it does with it; its fault is told. Conditions: none.
-/
import Derived.Test.YtcbapmkipcffgaaDoorObs
import Derived.Deep.CutRange
namespace Go.Proofs.YtcbapmkipcffgaaDoor
open Go.RowKit Go.Extern.Stop Go.Stop Go.Extern Go.Lib
set_option maxRecDepth 1000000

theorem obs_to_below {w w' : World} (h : Same (fun _ => False) w w') : Below w.heap.size w w' := ⟨h.os, h.tape, h.output, h.size, fun k hk => h.block k hk id⟩

theorem heap_alloc_drew (w : World) (o : Obj) : ((w.alloc o).drew).heap[w.heap.size]? = some o := heap_alloc_new w o

theorem four_cells {w : World} {p : Nat} {a b c d : Value} {t : TypeId} (h : w.heap[p]? = some (.cells #[a, b, c, d] t (0, 0))) :
    w.cell? ⟨p, 0, none⟩ = some a ∧ w.cell? ⟨p, 1, none⟩ = some b ∧ w.cell? ⟨p, 2, none⟩ = some c ∧ w.cell? ⟨p, 3, none⟩ = some d ∧ ∀ o, w.frozen? ⟨p, o, none⟩ = false := by
  simp [World.cell?, World.frozen?, h]

/-- Behind the statement's copies. -/
def ObsCut (W : World) (A B : List V) (s7 : Value) (wx : World) : Prop :=
  ∃ p yb ya, s7 = .pointer (some ⟨p, 0, none⟩) ∧ wx.heap[p]? = some (changeObj yb ya) ∧ ReadV wx yb A ∧ ReadV wx ya B ∧ Same (fun _ => False) W wx ∧ (∃ n c a, yb = .slice a n c) ∧ (∃ n c a, ya = .slice a n c)

theorem drew_size (w : World) : w.drew.heap.size = w.heap.size := rfl

theorem cut_alloc {w1 wB wA : World} {A B : List V} {bB bA nb na cb ca : Nat} {ab aa : Option Addr} (hob : wB.ownsRow bB 38 4 (.slice ab nb cb) A.length (vals A)) (hBA : Same (fun _ => False) wB wA) (hoa : wA.ownsRow bA 38 4 (.slice aa na ca) B.length (vals B)) (hT : Same (fun _ => False) w1 wA) :
    ObsCut w1 A B (.pointer (some ⟨wA.heap.size, 0, none⟩)) (wA.alloc (changeObj (.slice ab nb cb) (.slice aa na ca))) :=
  ⟨_, _, _, rfl, heap_alloc_new _ _, (ReadV.own (hBA.row hob (fun _ _ => id))).same ((Same.refl _ wA).alloc _), (ReadV.own hoa).same ((Same.refl _ wA).alloc _), hT.alloc _, ⟨_, _, _, rfl⟩, ⟨_, _, _, rfl⟩⟩

theorem cut_set {w1 wB wA : World} {A B : List V} {bB bA nb na cb ca p : Nat} {ab aa : Option Addr} {z0 z1 z2 z3 : Value} (hz : wA.heap[p]? = some (.cells #[z0, z1, z2, z3] 33 (0, 0)))
    (hob : wB.ownsRow bB 38 4 (.slice ab nb cb) A.length (vals A)) (hBA : Same (fun _ => False) wB wA) (hoa : wA.ownsRow bA 38 4 (.slice aa na ca) B.length (vals B)) (hT : Same (fun _ => False) w1 wA) (hp : w1.heap.size ≤ p)
    (hb : ∀ k, (Value.slice ab nb cb).ownBlock = some k → k ≠ p) (ha : ∀ k, (Value.slice aa na ca).ownBlock = some k → k ≠ p) :
    ObsCut w1 A B (.pointer (some ⟨p, 0, none⟩)) ((((wA.setCell ⟨p, 0, none⟩ (.string ⟨#[116]⟩)).setCell ⟨p, 1, none⟩ (.int .i64 3)).setCell ⟨p, 2, none⟩ (.slice ab nb cb)).setCell ⟨p, 3, none⟩ (.slice aa na ca)) := by
  have hs := ((((Same.refl (fun k => k = p) wA).setCell (p := ⟨p, 0, none⟩) (fun _ => rfl) (.string ⟨#[116]⟩)).setCell (p := ⟨p, 1, none⟩) (fun _ => rfl) (.int .i64 3)).setCell (p := ⟨p, 2, none⟩) (fun _ => rfl) (.slice ab nb cb)).setCell (p := ⟨p, 3, none⟩) (fun _ => rfl) (.slice aa na ca)
  refine ⟨p, _, _, rfl, setCell_at (setCell_at (setCell_at (setCell_at hz))), ReadV.own (hs.row (hBA.row hob (fun _ _ => id)) (fun k hk e => hb k hk e)), ReadV.own (hs.row hoa (fun k hk e => ha k hk e)), hT.trans hs (fun k hk h => by omega), ⟨_, _, _, rfl⟩, ⟨_, _, _, rfl⟩⟩

set_option maxHeartbeats 8000000 in
theorem hookObserves_any {W : World} {v u : Value} {A B : List V} (how : Int) (hr : ReadV W v A) (gr : ReadV W u B) (hok : ∀ x ∈ A, x.ok) (gok : ∀ x ∈ B, x.ok) (hn : A.length ≤ maxLen) (gn : B.length ≤ maxLen) (hg : Handle W) :
    Calls Tryd.prog 4 #[v, u, .int .i64 how] W fun e w' => e = .returned (.bool true) ∧ Below W.heap.size W w' := by
  obtain ⟨W0, hW0⟩ : ∃ W0, W0 = ((W.alloc (.cells #[v] 29)).alloc (.cells #[u] 29)).alloc (.cells #[.int .i64 how] 3) := ⟨_, rfl⟩
  have hs0 : Same (fun _ => False) W W0 := by rw [hW0]; exact (((Same.refl _ W).alloc _).alloc _).alloc _
  have h3 : One W0 W.heap.size v 29 := by rw [hW0]; exact ((One.new W _ _).alloc _).alloc _
  have h4 : One W0 (W.heap.size + 1) u 29 := by rw [hW0]; have := (One.new (W.alloc (.cells #[v] 29)) u 29).alloc (.cells #[.int .i64 how] 3); simpa only [alloc_size] using this
  have h5 : One W0 (W.heap.size + 1 + 1) (.int .i64 how) 3 := by rw [hW0]; have := One.new ((W.alloc (.cells #[v] 29)).alloc (.cells #[u] 29)) (.int .i64 how) 3; simpa only [alloc_size] using this
  have H3 := Lib.hid h3; have H4 := Lib.hid h4; have H5 := Lib.hid h5; have HS0 := Lib.hid hs0; have HR := Lib.hid (hr.same hs0); have GR := Lib.hid (gr.same hs0); have HOK := Lib.hid hok; have GOK := Lib.hid gok; have HN := Lib.hid hn; have GN := Lib.hid gn; have HG := Lib.hid (hg.same hs0 id); have HW0 := Lib.hid hW0
  obtain ⟨ao, cap, rfl⟩ := readV_len hr
  obtain ⟨bo, dap, rfl⟩ := readV_len gr
  clear hs0 h3 h4 h5 hr gr hok gok hn gn hg hW0
  go_enter Tryd.func4, Tryd.ntmps4
  go_wp2_with fail
  rw [← HW0.out]
  refine (known_any HG.out).mono ?_
  rintro e w1 ⟨rfl, hs1⟩
  have c3 := (hs1.one H3.out id).cell
  have HS1 := Lib.hid hs1
  clear hs1 HW0
  go_wp2_with fail
  refine (few_any (HR.out.same HS1.out) HOK.out HN.out 10).mono ?_
  rintro e w1' ⟨rfl, rfl⟩
  have c4 := (HS1.out.one H4.out id).cell
  rcases few_split (L := A) (m := 10) with hf | hf
  · rw [hf]
    clear hf
    go_wp2_with fail
    go_ret
    exact ⟨rfl, obs_to_below (HS0.out.trans HS1.out (fun _ _ h => h))⟩
  have hA := few_many hf
  rw [hf]
  clear hf
  go_wp2_with fail
  refine (few_any (GR.out.same HS1.out) GOK.out GN.out 10).mono ?_
  rintro e w1' ⟨rfl, rfl⟩
  rcases few_split (L := B) (m := 10) with hf | hf
  · rw [hf]
    clear hf
    go_wp2_with fail
    go_ret
    exact ⟨rfl, obs_to_below (HS0.out.trans HS1.out (fun _ _ h => h))⟩
  have hB := few_many hf
  rw [hf]
  clear hf
  go_upto_region 5 with fail
  go_cut [7] from 20 to 24 (fun s7 wx => ObsCut w1 A B s7 wx)
  case first =>
    have hA2 : A.length ≤ 10 := by omega
    have hB2 : B.length ≤ 10 := by omega
    have HVA := Lib.hid (HR.out.same HS1.out); have HVB := Lib.hid (GR.out.same HS1.out); have HC4 := Lib.hid c4
    have hca := fun (w' : World) (h : Same (fun _ => False) w1 w') => copy_any (HVA.out.same h) (by omega)
    have hcb := fun (w' : World) (h : Same (fun _ => False) w1 w') => copy_any (HVB.out.same h) (by omega)
    have HCA := Lib.hid hca; have HCB := Lib.hid hcb
    have hl3 : W.heap.size < w1.heap.size := (HS1.out.one H3.out id).lt
    have hl4 : W.heap.size + 1 < w1.heap.size := (HS1.out.one H4.out id).lt
    clear hca hcb
    go_region_law (first
      | (go_simp; refine (HCA.out _ (by repeat (first | assumption | exact Same.refl _ _ | refine Same.drew ?_ | refine Same.alloc ?_ _))).mono ?_; rintro e wB ⟨yb, rfl, hob, hsb⟩; obtain ⟨ab, cb, rfl⟩ := readV_len (ReadV.own hob); have hT : Same (fun _ => False) w1 wB := Same.trans (by repeat (first | assumption | exact Same.refl _ _ | refine Same.drew ?_ | refine Same.alloc ?_ _)) hsb (fun _ _ h => h); have d4 := ocell hT HC4.out; have hlB := hT.size; have l4B : W.heap.size + 1 < wB.heap.size := (by omega); (first | have zB := hsb.obj (heap_alloc_drew _ _) id | have zB := hsb.obj (heap_alloc_new _ _) id | skip))
      | (go_simp; refine (HCB.out _ (by repeat (first | assumption | exact Same.refl _ _ | refine Same.drew ?_ | refine Same.alloc ?_ _))).mono ?_; rintro e wA ⟨ya, rfl, hoa, hsa⟩; obtain ⟨aa, ca, rfl⟩ := readV_len (ReadV.own hoa); have hT2 : Same (fun _ => False) w1 wA := Same.trans (by repeat (first | assumption | exact Same.refl _ _ | refine Same.drew ?_ | refine Same.alloc ?_ _)) hsa (fun _ _ h => h); have d5 := ocell hT2 HC4.out; (first | (have zA := hsa.obj zB id; obtain ⟨za0, za1, za2, za3, zaf⟩ := four_cells zA) | (have zA := hsa.obj (heap_alloc_new _ _) id; obtain ⟨za0, za1, za2, za3, zaf⟩ := four_cells zA) | skip)))
    all_goals go_wp2_with fail
    all_goals go_meet
    all_goals
      have hBA : Same (fun _ => False) wB wA := by first | with_reducible exact hsa | exact ((Same.refl _ wB).alloc _).trans hsa (fun _ _ h => h)
      have HOB := Lib.hid hob; have HOA := Lib.hid hoa
      have hz1 := hsb.size
      have hz2 := hsa.size
      clear hob hoa hsa hsb HG HR GR HOK GOK HVA HVB HCA HCB HS0 HS1 H3 H4 H5 d4 d5 HC4 c3 c4
    all_goals first
      | with_reducible exact cut_alloc HOB.out hBA HOA.out hT2
      | with_reducible refine cut_set zA HOB.out hBA HOA.out hT2 ?_ ?_ ?_
    all_goals try simp only [drew_size, alloc_size] at hz1
    all_goals try simp only [alloc_size] at hz2
    all_goals first
      | omega
      | (intro k hk
         have g1 := (HOB.out.lt k hk).1
         have g2 := (HOB.out.lt k hk).2
         try simp only [drew_size, alloc_size] at g1
         omega)
      | (intro k hk
         have g1 := (HOA.out.lt k hk).1
         try simp only [alloc_size] at g1
         omega)
  case rest =>
    obtain ⟨p, yb, ya, rfl, hp, hyb, hya, hsc, ⟨n1, k1, a1, rfl⟩, ⟨n2, k2, a2, rfl⟩⟩ := hcut
    obtain ⟨x0, x1, x2, x3, xf⟩ := change_cells hp
    have hA2 : A.length ≤ 10 := by omega
    have hB2 : B.length ≤ 10 := by omega
    have hal := (Same.refl (fun _ => False) wc).alloc (.cells #[.bool false] 4)
    have h1c := HS1.out.trans hsc (fun _ _ h => h)
    have h1a := h1c.trans hal (fun _ _ h => h)
    have hobs := observe_any (w := wc.alloc (.cells #[.bool false] 4)) hA2 hB2 HOK.out GOK.out (hyb.same hal) (hya.same hal) (HR.out.same h1a) (GR.out.same h1a) (h1a.one H3.out id) (h1a.one H4.out id) (One.new wc (.bool false) 4) (h1a.one H5.out id) (by have := H5.out.lt; have := h1c.size; omega)
    have HYC := Lib.hid hyb; have HOBS := Lib.hid hobs; have HP := Lib.hid hp; have HYB := Lib.hid (hyb.same hal); have H1C := Lib.hid h1c; have H1A := Lib.hid h1a
    have hpl := lt_of_block hp
    have hm := i64_and1 how
    clear hobs hyb hya hsc hal h1c h1a c3 c4
    go_wp2_with fail
    refine HOBS.out.mono ?_
    rintro e w9 ⟨q1, q2, q3⟩
    have hs9 : Same (fun k => k = wc.heap.size) wc w9 := (((Same.refl (fun _ => False) wc).alloc (.cells #[.bool false] 4)).weaken (F' := fun k => k = wc.heap.size) (fun _ _ h => h.elim)).trans q3 (fun _ _ h => h)
    have hs9' : Same (fun _ => False) wc w9 := hs9.narrow (fun k hk h => by omega)
    have h09 := H1C.out.trans hs9' (fun _ _ h => h)
    have r1 := q2.cell
    have r2 := (change_cells (hs9'.obj HP.out id)).2.2.1
    have r3 := (h09.one H3.out id).cell
    have r4 := (h09.one H5.out id).cell
    have hvs := fun (w' : World) (h : Same (fun _ => False) w9 w') => vals_self ((HYC.out.same hs9').same h) ((HR.out.same h09).same h) HOK.out (by unfold maxLen; omega)
    have HVS := Lib.hid hvs
    have H9 := Lib.hid (HS0.out.trans h09 (fun _ _ h => h)); have HG9 := Lib.hid (HG.out.same h09 id)
    clear hs9 hs9' h09 hvs q2 q3 HOBS HP HYB H1C H1A x0 x1 x2 x3 xf
    by_cases hp2 : how % 2 = 1
    · rw [if_pos hp2] at q1
      obtain ⟨q, rfl, ho⟩ := q1
      have e1 : (how % 2 == 0) = false := by simp; omega
      have hst := fun (w' : World) (h : Same (fun _ => False) w9 w') => struck_int (h.obj ho id) (HG9.out.same h id)
      have HST := Lib.hid hst; have HP2 := Lib.hid hp2
      clear hst ho hp2
      go_wp2_with fail
      go_region_held3 (fun w' => w'.cell? ⟨wc.heap.size, 0, none⟩ = some (.bool true) ∧ w'.cell? ⟨p, 2, none⟩ = some (.slice a1 n1 k1) ∧ w'.cell? ⟨W.heap.size, 0, none⟩ = some (.slice ao A.length cap) ∧ w'.cell? ⟨W.heap.size + 1 + 1, 0, none⟩ = some (.int .i64 how) ∧ Same (fun _ => False) w9 w')
        (first | exact ⟨by assumption, by assumption, by assumption, by assumption, by assumption⟩ | exact ⟨by assumption, by assumption, by assumption, by assumption, Same.refl _ _⟩ | exact ⟨by assumption, by assumption, by assumption, by assumption, (Same.refl _ _).drew⟩ | exact ⟨by assumption, by assumption, by assumption, by assumption, Same.drew (by assumption)⟩)
        (first | (go_at_call 19; refine (HVS.out _ (by first | assumption | exact (Same.refl _ w9).drew | exact Same.refl _ w9)).mono ?_; rintro e w' ⟨rfl, hs'⟩; have j1 := ocell (a := ⟨wc.heap.size, 0, none⟩) hs' (by first | assumption | exact r1); have j2 := ocell (a := ⟨p, 2, none⟩) hs' (by first | assumption | exact r2); have j3 := ocell (a := ⟨W.heap.size, 0, none⟩) hs' (by first | assumption | exact r3); have j4 := ocell (a := ⟨W.heap.size + 1 + 1, 0, none⟩) hs' (by first | assumption | exact r4); have j5 : Same (fun _ => False) w9 w' := Same.trans (by first | assumption | exact (Same.refl _ w9).drew | exact Same.refl _ w9) hs' (fun _ _ h => h)) | (go_at_call 14; refine (HST.out _ (by first | assumption | exact (Same.refl _ w9).drew | exact Same.refl _ w9)).mono ?_; rintro e w' ⟨rfl, hs'⟩; have j1 := ocell (a := ⟨wc.heap.size, 0, none⟩) hs' (by first | assumption | exact r1); have j2 := ocell (a := ⟨p, 2, none⟩) hs' (by first | assumption | exact r2); have j3 := ocell (a := ⟨W.heap.size, 0, none⟩) hs' (by first | assumption | exact r3); have j4 := ocell (a := ⟨W.heap.size + 1 + 1, 0, none⟩) hs' (by first | assumption | exact r4); have j5 : Same (fun _ => False) w9 w' := Same.trans (by first | assumption | exact (Same.refl _ w9).drew | exact Same.refl _ w9) hs' (fun _ _ h => h)))
      all_goals
        have HJ := Lib.hid (H9.out.trans j5 (fun _ _ h => h))
        clear j1 j2 j3 j4 j5 hs'
        go_wp2_with fail
        go_ret
        exact ⟨rfl, obs_to_below HJ.out⟩
    · rw [if_neg hp2] at q1
      subst q1
      have e1 : (how % 2 == 0) = true := by simp; omega
      clear hp2
      go_wp2_with fail
      first
        | (go_region_law
        (first | (go_simp; refine (HVS.out _ (by first | assumption | exact (Same.refl _ w9).drew | exact Same.refl _ w9)).mono ?_; rintro e w' ⟨rfl, hs'⟩; have j1 := ocell (a := ⟨wc.heap.size, 0, none⟩) hs' (by first | assumption | exact r1); have j2 := ocell (a := ⟨p, 2, none⟩) hs' (by first | assumption | exact r2); have j3 := ocell (a := ⟨W.heap.size, 0, none⟩) hs' (by first | assumption | exact r3); have j4 := ocell (a := ⟨W.heap.size + 1 + 1, 0, none⟩) hs' (by first | assumption | exact r4); have j5 : Same (fun _ => False) w9 w' := Same.trans (by first | assumption | exact (Same.refl _ w9).drew | exact Same.refl _ w9) hs' (fun _ _ h => h))))
        | fail
      all_goals
        have HJ := Lib.hid (H9.out.trans j5 (fun _ _ h => h))
        clear j1 j2 j3 j4 j5 hs'
        go_wp2_with fail
        go_ret
        exact ⟨rfl, obs_to_below HJ.out⟩

end Go.Proofs.YtcbapmkipcffgaaDoor
