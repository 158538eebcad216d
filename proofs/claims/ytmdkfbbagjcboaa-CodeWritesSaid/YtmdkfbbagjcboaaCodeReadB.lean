/-
  Package code, told of memory: the reader reads a truth. Conditions: none on inputs but a bound of the length.
-/
import Derived.Test.YtmdkfbbagjcboaaCodeReadV
import Derived.Deep.RegionHeld3
namespace Go.Proofs.Ytmdkfbbagjcboaa
open Go.RowKit

set_option maxRecDepth 10000000 in
set_option maxHeartbeats 4000000 in
theorem value_bool {w : World} {rb b0 : Nat} {r : List UInt8} (h : Rd w rb b0 (2 :: r)) (hl : r.length ≤ 1000000) :
    Calls Try.prog 24 #[.pointer (some ⟨rb, 0, none⟩)] w fun e w' => Same (fun k => k = rb) w w' ∧ ValSays rb b0 (2 :: r) e w' := by
  have hrb : rb < w.heap.size := by obtain ⟨_, _, h1, _⟩ := h; exact h1.lt
  have hb0 : b0 < w.heap.size := by obtain ⟨_, _, _, _, h3, _⟩ := h; exact h3
  have h0 : Rd (w.alloc V.nil.obj) rb b0 (2 :: r) := h.same (F := fun _ => False) ((Same.refl _ w).alloc _) id id
  have hs : Same (fun k => k = rb) w (w.alloc V.nil.obj) := (Same.refl _ w).alloc _
  have hn : (w.alloc V.nil.obj).heap[w.heap.size]? = some V.nil.obj := heap_alloc_new _ _
  have H := Lib.hid h0; have HS := Lib.hid hs; have HN := Lib.hid hn
  clear h h0 hs hn
  go_enter Try.func24, Try.ntmps24
  go_wp2_with fail
  refine (takes_yes H.out 1 (by simp)).mono ?_
  rintro e w1 ⟨off, cap, rfl, hb, hs1, hr⟩
  have hk := hb.cells 0 2 rfl
  rw [Nat.add_zero] at hk
  have hn1 := hs1.obj HN.out (by omega)
  have hlt := lt_of_block hn1
  have hs2 := HS.out.trans hs1 (fun _ _ h => h)
  have HR := Lib.hid hr; have HN1 := Lib.hid hn1; have HS2 := Lib.hid hs2
  clear hb hs1 hr hn1 hs2
  go_wp2_with fail
  have ha : Same (fun _ => False) w1 (w1.alloc (⟨2, 0, ⟨#[]⟩, 0⟩ : V).obj) := (Same.refl _ w1).alloc _
  have hra : Rd (w1.alloc (⟨2, 0, ⟨#[]⟩, 0⟩ : V).obj) rb b0 r := HR.out.same ha id id
  have hna := ha.obj HN1.out id
  have hn6 : (w1.alloc (⟨2, 0, ⟨#[]⟩, 0⟩ : V).obj).heap[w1.heap.size]? = some (⟨2, 0, ⟨#[]⟩, 0⟩ : V).obj := heap_alloc_new _ _
  have hsa := HS2.out.trans ha (fun _ _ h => h.elim)
  obtain ⟨p6, hp6⟩ : ∃ p, p = w1.heap.size := ⟨_, rfl⟩
  obtain ⟨W2, hW2⟩ : ∃ W, W = w1.alloc (⟨2, 0, ⟨#[]⟩, 0⟩ : V).obj := ⟨_, rfl⟩
  simp only [V.obj] at hW2
  rw [← hp6] at hn6 ⊢
  rw [← hW2] at hra hna hn6 hsa ⊢
  have h26 : w.heap.size ≠ p6 := by omega
  have h6 : w.heap.size ≤ p6 := by omega
  obtain ⟨p2, hp2⟩ : ∃ p, p = w.heap.size := ⟨_, rfl⟩
  rw [← hp2] at hna h26 ⊢
  have h2 : w.heap.size ≤ p2 := by omega
  have HRA := Lib.hid hra; have HNA := Lib.hid hna; have HN6 := Lib.hid hn6; have HSA := Lib.hid hsa
  clear ha hra hna hn6 hsa hW2 hp6 hp2 hk hlt HR HN1 HS2 H HS HN
  cases r with
  | nil =>
    refine (takes_no HRA.out 1 (by simp)).mono ?_
    rintro e w' ⟨rfl, rfl⟩
    obtain ⟨a0, a1, a2, a3⟩ := obj_cells HN6.out
    obtain ⟨z0, z1, z2, z3⟩ := obj_cells HNA.out
    have f6 := obj_free HN6.out
    have f2 := obj_free HNA.out
    go_wp2_with fail
    have HF := Lib.hid (Fin.start HSA.out HNA.out h2 hb0 hrb)
    go_region_with fail
    all_goals go_wp2_with fail
    all_goals
      refine fin_none (x := ⟨2, 0, ⟨#[]⟩, 0⟩) (W := W2) ?_ rfl rfl rfl rfl
      repeat (with_reducible first | exact HF.out | refine Fin.drew ?_ | refine Fin.alloc ?_ _ | refine Fin.set (y := V.nil) ?_ _ _ _ _)
  | cons b r =>
    refine (takes_yes HRA.out 1 (by simp)).mono ?_
    rintro e W3 ⟨off2, cap2, rfl, hb3, hs3, hr3⟩
    have hk2 := hb3.cells 0 b rfl
    rw [Nat.add_zero] at hk2
    have hn6 := hs3.obj HN6.out (by omega)
    have hn2 := hs3.obj HNA.out (by omega)
    have hs3' := HSA.out.trans hs3 (fun _ _ h => h)
    obtain ⟨a0, a1, a2, a3⟩ := obj_cells hn6
    obtain ⟨z0, z1, z2, z3⟩ := obj_cells hn2
    have f6 := obj_free hn6
    have f2 := obj_free hn2
    have hblt := b.toNat_lt
    have hX : wrap64 (b.toNat : Int) = b.toNat := by unfold wrap64; omega
    have hok : (⟨2, b.toNat, ⟨#[]⟩, 0⟩ : V).ok := ⟨by simp, by simp, by simp only; omega, by simp only; omega, (by show (0 : Nat) ≤ _; omega), by simp⟩
    have hr : Same (fun k => k = p6) W3 (W3.setCell ⟨p6, 1, none⟩ (.int .i64 (b.toNat : Int))) := (Same.refl (fun k => k = p6) W3).setCell (p := ⟨p6, 1, none⟩) (fun _ => rfl) _
    have hs4 := hs3'.setCell (p := ⟨p6, 1, none⟩) (fun (h : p6 < w.heap.size) => by omega) (.int .i64 (b.toNat : Int))
    have hn64 : (W3.setCell ⟨p6, 1, none⟩ (.int .i64 (b.toNat : Int))).heap[p6]? = some (⟨2, b.toNat, ⟨#[]⟩, 0⟩ : V).obj := setCell_at hn6
    have hn24 := hr.obj hn2 h26
    have hr4 := hr3.same hr (by omega) (by omega)
    have HN24 := Lib.hid hn24; have HN64 := Lib.hid hn64; have HS4 := Lib.hid hs4; have HR4 := Lib.hid hr4; have HOK := Lib.hid hok
    clear hs3 hr3 hn6 hn2 hs3' hb3 hok hn24 hn64 hs4 hr4 hr
    go_wp2_with fail
    obtain ⟨W4, hW4⟩ : ∃ W, W = W3.setCell ⟨p6, 1, none⟩ (.int .i64 (b.toNat : Int)) := ⟨_, rfl⟩
    rw [← hW4] at HN24 HN64 HS4 HR4 ⊢
    clear hW4 a0 a1 a2 a3 z0 z1 z2 z3 f6 f2 hk2
    obtain ⟨a0, a1, a2, a3⟩ := obj_cells HN64.out
    obtain ⟨z0, z1, z2, z3⟩ := obj_cells HN24.out
    have f6 := obj_free HN64.out
    have f2 := obj_free HN24.out
    simp only at a0 a1 a2 a3 z0 z1 z2 z3
    have hl2 := lt_of_block HN24.out
    have hl6 := lt_of_block HN64.out
    have HF := Lib.hid (Fin.start HS4.out HN24.out h2 hb0 hrb)
    by_cases hb01 : b = 0 ∨ b = 1
    · have hI : isV ⟨2, b.toNat, ⟨#[]⟩, 0⟩ = true := by rcases hb01 with rfl | rfl <;> simp [isV, Go.ByteArray.toList_eq]
      have hv : vdec (2 :: b :: r) = some (⟨2, b.toNat, ⟨#[]⟩, 0⟩, r) := by simp [vdec, hb01]
      have HV := Lib.hid hv
      clear hb01 hv
      go_region_held3 (fun w' => w'.cell? ⟨p6, 0, none⟩ = some (.int .i64 2) ∧ w'.cell? ⟨p6, 1, none⟩ = some (.int .i64 (b.toNat : Int)) ∧ w'.cell? ⟨p6, 2, none⟩ = some (.string ⟨#[]⟩) ∧ w'.cell? ⟨p6, 3, none⟩ = some (.float .f64 0)) (go_keep)
        (first | (go_at_call 17; refine (is_any ⟨2, b.toNat, ⟨#[]⟩, 0⟩ HOK.out _).mono ?_; rintro e w' ⟨rfl, rfl⟩))
      all_goals
        go_wp2_with fail
        refine fin_some (x := ⟨2, b.toNat, ⟨#[]⟩, 0⟩) (W := W4) ?_ rfl rfl rfl HV.out HR4.out
        repeat (with_reducible first | exact HF.out | refine Fin.drew ?_ | refine Fin.alloc ?_ _ | refine Fin.set (y := V.nil) ?_ _ _ _ _)
    · have hI : isV ⟨2, b.toNat, ⟨#[]⟩, 0⟩ = false := by
        have e0 : b.toNat ≠ 0 := fun e => hb01 (Or.inl (UInt8.toNat_inj.1 e))
        have e1 : b.toNat ≠ 1 := fun e => hb01 (Or.inr (UInt8.toNat_inj.1 e))
        simp [isV]; omega
      have hv : vdec (2 :: b :: r) = none := by simp [vdec, hb01]
      have HV := Lib.hid hv
      clear hb01 hv
      go_region_held3 (fun w' => w'.cell? ⟨p6, 0, none⟩ = some (.int .i64 2) ∧ w'.cell? ⟨p6, 1, none⟩ = some (.int .i64 (b.toNat : Int)) ∧ w'.cell? ⟨p6, 2, none⟩ = some (.string ⟨#[]⟩) ∧ w'.cell? ⟨p6, 3, none⟩ = some (.float .f64 0)) (go_keep)
        (first | (go_at_call 17; refine (is_any ⟨2, b.toNat, ⟨#[]⟩, 0⟩ HOK.out _).mono ?_; rintro e w' ⟨rfl, rfl⟩))
      all_goals
        go_wp2_with fail
        refine fin_none (x := ⟨2, b.toNat, ⟨#[]⟩, 0⟩) (W := W4) ?_ rfl rfl rfl HV.out
        repeat (with_reducible first | exact HF.out | refine Fin.drew ?_ | refine Fin.alloc ?_ _ | refine Fin.set (y := V.nil) ?_ _ _ _ _)

end Go.Proofs.Ytmdkfbbagjcboaa
