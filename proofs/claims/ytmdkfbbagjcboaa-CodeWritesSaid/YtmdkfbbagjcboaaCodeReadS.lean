/-
  Package code, told of memory: the reader reads a text's value; a kind that is none. Conditions: none on inputs but a bound of the length. (The two kinds' walks are alike: printed by wip/tools/readS_gen.py.)
-/
import Derived.Test.YtmdkfbbagjcboaaCodeReadB
import Derived.Deep.RegionHeld3
namespace Go.Proofs.Ytmdkfbbagjcboaa
open Go.RowKit

theorem tdec_len (l : List UInt8) : ∀ s t, tdec l = some (s, t) → s.length + t.length + 2 ≤ l.length := by
  fun_induction tdec l with
  | case1 => intro s t h; cases h
  | case2 => intro s t h; cases h
  | case3 r => intro s t h; cases h; simp
  | case4 r h1 ih =>
    intro s t h
    simp only [Option.map_eq_some_iff] at h
    obtain ⟨p, hp, he⟩ := h
    cases he
    have := ih _ _ hp
    simp; omega
  | case5 => intro s t h; cases h
  | case6 b c r h1 ih =>
    intro s t h
    simp only [Option.map_eq_some_iff] at h
    obtain ⟨p, hp, he⟩ := h
    cases he
    have := ih _ _ hp
    simp at this ⊢; omega

theorem isV_text (k : Int) (hk : k = 3 ∨ k = 4) (s : ByteArray) : isV ⟨k, 0, s, 0⟩ = decide (s.size ≤ 60) := by
  unfold isV
  rw [if_neg (by simp; omega), if_neg (by simp; omega), if_pos (by simpa using hk)]
  simp

set_option maxRecDepth 10000000 in
set_option maxHeartbeats 4000000 in
theorem value_str {w : World} {rb b0 : Nat} {r : List UInt8} (h : Rd w rb b0 (3 :: r)) (hl : r.length ≤ 1000000) :
    Calls Try.prog 24 #[.pointer (some ⟨rb, 0, none⟩)] w fun e w' => Same (fun k => k = rb) w w' ∧ ValSays rb b0 (3 :: r) e w' := by
  have hrb : rb < w.heap.size := by obtain ⟨_, _, h1, _⟩ := h; exact h1.lt
  have hb0 : b0 < w.heap.size := by obtain ⟨_, _, _, _, h3, _⟩ := h; exact h3
  have h0 : Rd (w.alloc V.nil.obj) rb b0 (3 :: r) := h.same (F := fun _ => False) ((Same.refl _ w).alloc _) id id
  have hs : Same (fun k => k = rb) w (w.alloc V.nil.obj) := (Same.refl _ w).alloc _
  have hn : (w.alloc V.nil.obj).heap[w.heap.size]? = some V.nil.obj := heap_alloc_new _ _
  have H := Lib.hid h0; have HS := Lib.hid hs; have HN := Lib.hid hn
  clear h h0 hs hn
  go_enter Try.func24, Try.ntmps24
  go_wp2_with fail
  refine (takes_yes H.out 1 (by simp)).mono ?_
  rintro e w1 ⟨off, cap, rfl, hb, hs1, hr⟩
  have hk := hb.cells 0 3 rfl
  rw [Nat.add_zero] at hk
  have hn1 := hs1.obj HN.out (by omega)
  have hlt := lt_of_block hn1
  have hs2 := HS.out.trans hs1 (fun _ _ h => h)
  have HR := Lib.hid hr; have HN1 := Lib.hid hn1; have HS2 := Lib.hid hs2
  clear hb hs1 hr hn1 hs2
  go_wp2_with fail
  have ha : Same (fun _ => False) w1 (w1.alloc (⟨3, 0, ⟨#[]⟩, 0⟩ : V).obj) := (Same.refl _ w1).alloc _
  have hra : Rd (w1.alloc (⟨3, 0, ⟨#[]⟩, 0⟩ : V).obj) rb b0 r := HR.out.same ha id id
  have hna := ha.obj HN1.out id
  have hn6 : (w1.alloc (⟨3, 0, ⟨#[]⟩, 0⟩ : V).obj).heap[w1.heap.size]? = some (⟨3, 0, ⟨#[]⟩, 0⟩ : V).obj := heap_alloc_new _ _
  have hsa := HS2.out.trans ha (fun _ _ h => h.elim)
  obtain ⟨p6, hp6⟩ : ∃ p, p = w1.heap.size := ⟨_, rfl⟩
  obtain ⟨W2, hW2⟩ : ∃ W, W = w1.alloc (⟨3, 0, ⟨#[]⟩, 0⟩ : V).obj := ⟨_, rfl⟩
  simp only [V.obj] at hW2
  rw [← hp6] at hn6 ⊢
  rw [← hW2] at hra hna hn6 hsa ⊢
  have h26 : w.heap.size ≠ p6 := by omega
  have h6 : w.heap.size ≤ p6 := by omega
  obtain ⟨p2, hp2⟩ : ∃ p, p = w.heap.size := ⟨_, rfl⟩
  rw [← hp2] at hna h26 ⊢
  have h2 : w.heap.size ≤ p2 := by omega
  have HRA := Lib.hid hra; have HNA := Lib.hid hna; have HN6 := Lib.hid hn6; have HSA := Lib.hid hsa
  clear ha hra hna hn6 hsa hW2 hp6 hp2 hk hlt HR HN1 HS2 H HS HN
  refine (text_reads HRA.out hl).mono ?_
  rintro e W3 ⟨hs3, hsay⟩
  have hn6 := hs3.obj HN6.out (by omega)
  have hn2 := hs3.obj HNA.out (by omega)
  have hs3' := HSA.out.trans hs3 (fun _ _ h => h)
  obtain ⟨a0, a1, a2, a3⟩ := obj_cells hn6
  obtain ⟨z0, z1, z2, z3⟩ := obj_cells hn2
  have f6 := obj_free hn6
  have f2 := obj_free hn2
  obtain ⟨S, ok, he, hok⟩ : ∃ (S : ByteArray) (ok : Bool), e = .returned (.tuple #[.string S, .bool ok]) ∧ ((ok = false ∧ vdec (3 :: r) = none) ∨ (ok = true ∧ S.size ≤ 1000000 ∧ ∃ t, Rd W3 rb b0 t ∧ (S.size ≤ 60 → vdec (3 :: r) = some (⟨3, 0, S, 0⟩, t)) ∧ (¬ S.size ≤ 60 → vdec (3 :: r) = none))) := by
    unfold TextSays at hsay
    cases ht : tdec r with
    | none => rw [ht] at hsay; exact ⟨_, _, hsay, Or.inl ⟨rfl, by simp [vdec, ht]⟩⟩
    | some p =>
      rw [ht] at hsay
      have hlen := tdec_len r p.1 p.2 ht
      have hsz : (⟨([] ++ p.1).toArray⟩ : ByteArray).size = p.1.length := by show (([] ++ p.1).toArray).size = _; simp
      refine ⟨_, _, hsay.1, Or.inr ⟨rfl, by omega, p.2, hsay.2, fun h => ?_, fun h => ?_⟩⟩
      · rw [hsz] at h
        simp [vdec, ht, h]
      · rw [hsz] at h
        simp [vdec, ht, h]
  subst he
  clear hsay
  have hr : Same (fun k => k = p6) W3 (W3.setCell ⟨p6, 2, none⟩ (.string S)) := (Same.refl (fun k => k = p6) W3).setCell (p := ⟨p6, 2, none⟩) (fun _ => rfl) _
  have hs4 := hs3'.setCell (p := ⟨p6, 2, none⟩) (fun (h : p6 < w.heap.size) => by omega) (.string S)
  have hn64 : (W3.setCell ⟨p6, 2, none⟩ (.string S)).heap[p6]? = some (⟨3, 0, S, 0⟩ : V).obj := setCell_at hn6
  have hn24 := hr.obj hn2 h26
  have HN24 := Lib.hid hn24; have HN64 := Lib.hid hn64; have HS4 := Lib.hid hs4; have HR := Lib.hid hr; have HOK := Lib.hid hok
  clear hs3 hn6 hn2 hs3' hn24 hn64 hs4 hr hok
  go_wp2_with fail
  have hrd : ∀ t, Rd W3 rb b0 t → Rd (W3.setCell ⟨p6, 2, none⟩ (.string S)) rb b0 t := fun t ht => ht.same HR.out (by omega) (by omega)
  have HRD := Lib.hid hrd
  obtain ⟨W4, hW4⟩ : ∃ W, W = W3.setCell ⟨p6, 2, none⟩ (.string S) := ⟨_, rfl⟩
  rw [← hW4] at HN24 HN64 HS4 HRD ⊢
  clear hW4 HR hrd a0 a1 a2 a3 z0 z1 z2 z3 f6 f2
  obtain ⟨a0, a1, a2, a3⟩ := obj_cells HN64.out
  obtain ⟨z0, z1, z2, z3⟩ := obj_cells HN24.out
  have f6 := obj_free HN64.out
  have f2 := obj_free HN24.out
  simp only at a0 a1 a2 a3 z0 z1 z2 z3
  have hl2 := lt_of_block HN24.out
  have hl6 := lt_of_block HN64.out
  have HF := Lib.hid (Fin.start HS4.out HN24.out h2 hb0 hrb)
  rcases HOK.out with ⟨rfl, hv⟩ | ⟨rfl, hsz, t, hrt, hv1, hv2⟩
  · have HV := Lib.hid hv
    clear HOK HRD hv
    go_region_with fail
    all_goals
      go_wp2_with fail
      refine fin_none (x := ⟨3, 0, S, 0⟩) (W := W4) ?_ rfl rfl rfl HV.out
      repeat (with_reducible first | exact HF.out | refine Fin.drew ?_ | refine Fin.alloc ?_ _ | refine Fin.set (y := V.nil) ?_ _ _ _ _)
  · have hvok : (⟨3, 0, S, 0⟩ : V).ok := ⟨by simp, by simp, by simp, by simp, by simp only [maxLen]; omega, by simp⟩
    have hI := isV_text 3 (by omega) S
    have HVK := Lib.hid hvok; have HV1 := Lib.hid hv1; have HV2 := Lib.hid hv2; have HRT := Lib.hid (HRD.out t hrt)
    clear HOK HRD hvok hv1 hv2 hrt hsz
    by_cases h60 : S.size ≤ 60
    · rw [decide_eq_true h60] at hI
      have HV := Lib.hid (HV1.out h60)
      clear HV1 HV2 h60
      go_region_held3 (fun w' => w'.cell? ⟨p6, 0, none⟩ = some (.int .i64 3) ∧ w'.cell? ⟨p6, 1, none⟩ = some (.int .i64 0) ∧ w'.cell? ⟨p6, 2, none⟩ = some (.string S) ∧ w'.cell? ⟨p6, 3, none⟩ = some (.float .f64 0)) (go_keep)
        (first | (go_at_call 17; refine (is_any ⟨3, 0, S, 0⟩ HVK.out _).mono ?_; rintro e w' ⟨rfl, rfl⟩))
      all_goals
        go_wp2_with fail
        refine fin_some (x := ⟨3, 0, S, 0⟩) (W := W4) ?_ rfl rfl rfl HV.out HRT.out
        repeat (with_reducible first | exact HF.out | refine Fin.drew ?_ | refine Fin.alloc ?_ _ | refine Fin.set (y := V.nil) ?_ _ _ _ _)
    · rw [decide_eq_false h60] at hI
      have HV := Lib.hid (HV2.out h60)
      clear HV1 HV2 h60
      go_region_held3 (fun w' => w'.cell? ⟨p6, 0, none⟩ = some (.int .i64 3) ∧ w'.cell? ⟨p6, 1, none⟩ = some (.int .i64 0) ∧ w'.cell? ⟨p6, 2, none⟩ = some (.string S) ∧ w'.cell? ⟨p6, 3, none⟩ = some (.float .f64 0)) (go_keep)
        (first | (go_at_call 17; refine (is_any ⟨3, 0, S, 0⟩ HVK.out _).mono ?_; rintro e w' ⟨rfl, rfl⟩))
      all_goals
        go_wp2_with fail
        refine fin_none (x := ⟨3, 0, S, 0⟩) (W := W4) ?_ rfl rfl rfl HV.out
        repeat (with_reducible first | exact HF.out | refine Fin.drew ?_ | refine Fin.alloc ?_ _ | refine Fin.set (y := V.nil) ?_ _ _ _ _)

set_option maxRecDepth 10000000 in
set_option maxHeartbeats 4000000 in
theorem value_bytes {w : World} {rb b0 : Nat} {r : List UInt8} (h : Rd w rb b0 (4 :: r)) (hl : r.length ≤ 1000000) :
    Calls Try.prog 24 #[.pointer (some ⟨rb, 0, none⟩)] w fun e w' => Same (fun k => k = rb) w w' ∧ ValSays rb b0 (4 :: r) e w' := by
  have hrb : rb < w.heap.size := by obtain ⟨_, _, h1, _⟩ := h; exact h1.lt
  have hb0 : b0 < w.heap.size := by obtain ⟨_, _, _, _, h3, _⟩ := h; exact h3
  have h0 : Rd (w.alloc V.nil.obj) rb b0 (4 :: r) := h.same (F := fun _ => False) ((Same.refl _ w).alloc _) id id
  have hs : Same (fun k => k = rb) w (w.alloc V.nil.obj) := (Same.refl _ w).alloc _
  have hn : (w.alloc V.nil.obj).heap[w.heap.size]? = some V.nil.obj := heap_alloc_new _ _
  have H := Lib.hid h0; have HS := Lib.hid hs; have HN := Lib.hid hn
  clear h h0 hs hn
  go_enter Try.func24, Try.ntmps24
  go_wp2_with fail
  refine (takes_yes H.out 1 (by simp)).mono ?_
  rintro e w1 ⟨off, cap, rfl, hb, hs1, hr⟩
  have hk := hb.cells 0 4 rfl
  rw [Nat.add_zero] at hk
  have hn1 := hs1.obj HN.out (by omega)
  have hlt := lt_of_block hn1
  have hs2 := HS.out.trans hs1 (fun _ _ h => h)
  have HR := Lib.hid hr; have HN1 := Lib.hid hn1; have HS2 := Lib.hid hs2
  clear hb hs1 hr hn1 hs2
  go_wp2_with fail
  have ha : Same (fun _ => False) w1 (w1.alloc (⟨4, 0, ⟨#[]⟩, 0⟩ : V).obj) := (Same.refl _ w1).alloc _
  have hra : Rd (w1.alloc (⟨4, 0, ⟨#[]⟩, 0⟩ : V).obj) rb b0 r := HR.out.same ha id id
  have hna := ha.obj HN1.out id
  have hn6 : (w1.alloc (⟨4, 0, ⟨#[]⟩, 0⟩ : V).obj).heap[w1.heap.size]? = some (⟨4, 0, ⟨#[]⟩, 0⟩ : V).obj := heap_alloc_new _ _
  have hsa := HS2.out.trans ha (fun _ _ h => h.elim)
  obtain ⟨p6, hp6⟩ : ∃ p, p = w1.heap.size := ⟨_, rfl⟩
  obtain ⟨W2, hW2⟩ : ∃ W, W = w1.alloc (⟨4, 0, ⟨#[]⟩, 0⟩ : V).obj := ⟨_, rfl⟩
  simp only [V.obj] at hW2
  rw [← hp6] at hn6 ⊢
  rw [← hW2] at hra hna hn6 hsa ⊢
  have h26 : w.heap.size ≠ p6 := by omega
  have h6 : w.heap.size ≤ p6 := by omega
  obtain ⟨p2, hp2⟩ : ∃ p, p = w.heap.size := ⟨_, rfl⟩
  rw [← hp2] at hna h26 ⊢
  have h2 : w.heap.size ≤ p2 := by omega
  have HRA := Lib.hid hra; have HNA := Lib.hid hna; have HN6 := Lib.hid hn6; have HSA := Lib.hid hsa
  clear ha hra hna hn6 hsa hW2 hp6 hp2 hk hlt HR HN1 HS2 H HS HN
  refine (text_reads HRA.out hl).mono ?_
  rintro e W3 ⟨hs3, hsay⟩
  have hn6 := hs3.obj HN6.out (by omega)
  have hn2 := hs3.obj HNA.out (by omega)
  have hs3' := HSA.out.trans hs3 (fun _ _ h => h)
  obtain ⟨a0, a1, a2, a3⟩ := obj_cells hn6
  obtain ⟨z0, z1, z2, z3⟩ := obj_cells hn2
  have f6 := obj_free hn6
  have f2 := obj_free hn2
  obtain ⟨S, ok, he, hok⟩ : ∃ (S : ByteArray) (ok : Bool), e = .returned (.tuple #[.string S, .bool ok]) ∧ ((ok = false ∧ vdec (4 :: r) = none) ∨ (ok = true ∧ S.size ≤ 1000000 ∧ ∃ t, Rd W3 rb b0 t ∧ (S.size ≤ 60 → vdec (4 :: r) = some (⟨4, 0, S, 0⟩, t)) ∧ (¬ S.size ≤ 60 → vdec (4 :: r) = none))) := by
    unfold TextSays at hsay
    cases ht : tdec r with
    | none => rw [ht] at hsay; exact ⟨_, _, hsay, Or.inl ⟨rfl, by simp [vdec, ht]⟩⟩
    | some p =>
      rw [ht] at hsay
      have hlen := tdec_len r p.1 p.2 ht
      have hsz : (⟨([] ++ p.1).toArray⟩ : ByteArray).size = p.1.length := by show (([] ++ p.1).toArray).size = _; simp
      refine ⟨_, _, hsay.1, Or.inr ⟨rfl, by omega, p.2, hsay.2, fun h => ?_, fun h => ?_⟩⟩
      · rw [hsz] at h
        simp [vdec, ht, h]
      · rw [hsz] at h
        simp [vdec, ht, h]
  subst he
  clear hsay
  have hr : Same (fun k => k = p6) W3 (W3.setCell ⟨p6, 2, none⟩ (.string S)) := (Same.refl (fun k => k = p6) W3).setCell (p := ⟨p6, 2, none⟩) (fun _ => rfl) _
  have hs4 := hs3'.setCell (p := ⟨p6, 2, none⟩) (fun (h : p6 < w.heap.size) => by omega) (.string S)
  have hn64 : (W3.setCell ⟨p6, 2, none⟩ (.string S)).heap[p6]? = some (⟨4, 0, S, 0⟩ : V).obj := setCell_at hn6
  have hn24 := hr.obj hn2 h26
  have HN24 := Lib.hid hn24; have HN64 := Lib.hid hn64; have HS4 := Lib.hid hs4; have HR := Lib.hid hr; have HOK := Lib.hid hok
  clear hs3 hn6 hn2 hs3' hn24 hn64 hs4 hr hok
  go_wp2_with fail
  have hrd : ∀ t, Rd W3 rb b0 t → Rd (W3.setCell ⟨p6, 2, none⟩ (.string S)) rb b0 t := fun t ht => ht.same HR.out (by omega) (by omega)
  have HRD := Lib.hid hrd
  obtain ⟨W4, hW4⟩ : ∃ W, W = W3.setCell ⟨p6, 2, none⟩ (.string S) := ⟨_, rfl⟩
  rw [← hW4] at HN24 HN64 HS4 HRD ⊢
  clear hW4 HR hrd a0 a1 a2 a3 z0 z1 z2 z3 f6 f2
  obtain ⟨a0, a1, a2, a3⟩ := obj_cells HN64.out
  obtain ⟨z0, z1, z2, z3⟩ := obj_cells HN24.out
  have f6 := obj_free HN64.out
  have f2 := obj_free HN24.out
  simp only at a0 a1 a2 a3 z0 z1 z2 z3
  have hl2 := lt_of_block HN24.out
  have hl6 := lt_of_block HN64.out
  have HF := Lib.hid (Fin.start HS4.out HN24.out h2 hb0 hrb)
  rcases HOK.out with ⟨rfl, hv⟩ | ⟨rfl, hsz, t, hrt, hv1, hv2⟩
  · have HV := Lib.hid hv
    clear HOK HRD hv
    go_region_with fail
    all_goals
      go_wp2_with fail
      refine fin_none (x := ⟨4, 0, S, 0⟩) (W := W4) ?_ rfl rfl rfl HV.out
      repeat (with_reducible first | exact HF.out | refine Fin.drew ?_ | refine Fin.alloc ?_ _ | refine Fin.set (y := V.nil) ?_ _ _ _ _)
  · have hvok : (⟨4, 0, S, 0⟩ : V).ok := ⟨by simp, by simp, by simp, by simp, by simp only [maxLen]; omega, by simp⟩
    have hI := isV_text 4 (by omega) S
    have HVK := Lib.hid hvok; have HV1 := Lib.hid hv1; have HV2 := Lib.hid hv2; have HRT := Lib.hid (HRD.out t hrt)
    clear HOK HRD hvok hv1 hv2 hrt hsz
    by_cases h60 : S.size ≤ 60
    · rw [decide_eq_true h60] at hI
      have HV := Lib.hid (HV1.out h60)
      clear HV1 HV2 h60
      go_region_held3 (fun w' => w'.cell? ⟨p6, 0, none⟩ = some (.int .i64 4) ∧ w'.cell? ⟨p6, 1, none⟩ = some (.int .i64 0) ∧ w'.cell? ⟨p6, 2, none⟩ = some (.string S) ∧ w'.cell? ⟨p6, 3, none⟩ = some (.float .f64 0)) (go_keep)
        (first | (go_at_call 17; refine (is_any ⟨4, 0, S, 0⟩ HVK.out _).mono ?_; rintro e w' ⟨rfl, rfl⟩))
      all_goals
        go_wp2_with fail
        refine fin_some (x := ⟨4, 0, S, 0⟩) (W := W4) ?_ rfl rfl rfl HV.out HRT.out
        repeat (with_reducible first | exact HF.out | refine Fin.drew ?_ | refine Fin.alloc ?_ _ | refine Fin.set (y := V.nil) ?_ _ _ _ _)
    · rw [decide_eq_false h60] at hI
      have HV := Lib.hid (HV2.out h60)
      clear HV1 HV2 h60
      go_region_held3 (fun w' => w'.cell? ⟨p6, 0, none⟩ = some (.int .i64 4) ∧ w'.cell? ⟨p6, 1, none⟩ = some (.int .i64 0) ∧ w'.cell? ⟨p6, 2, none⟩ = some (.string S) ∧ w'.cell? ⟨p6, 3, none⟩ = some (.float .f64 0)) (go_keep)
        (first | (go_at_call 17; refine (is_any ⟨4, 0, S, 0⟩ HVK.out _).mono ?_; rintro e w' ⟨rfl, rfl⟩))
      all_goals
        go_wp2_with fail
        refine fin_none (x := ⟨4, 0, S, 0⟩) (W := W4) ?_ rfl rfl rfl HV.out
        repeat (with_reducible first | exact HF.out | refine Fin.drew ?_ | refine Fin.alloc ?_ _ | refine Fin.set (y := V.nil) ?_ _ _ _ _)

theorem value_else {w : World} {rb b0 : Nat} {k : UInt8} {r : List UInt8} (h : Rd w rb b0 (k :: r)) (k1 : k ≠ 1) (k2 : k ≠ 2) (k3 : k ≠ 3) (k4 : k ≠ 4) (k5 : k ≠ 5) :
    Calls Try.prog 24 #[.pointer (some ⟨rb, 0, none⟩)] w fun e w' => Same (fun k => k = rb) w w' ∧ ValSays rb b0 (k :: r) e w' := by
  have hrb : rb < w.heap.size := by obtain ⟨_, _, h1, _⟩ := h; exact h1.lt
  have hb0 : b0 < w.heap.size := by obtain ⟨_, _, _, _, h3, _⟩ := h; exact h3
  have h0 : Rd (w.alloc V.nil.obj) rb b0 (k :: r) := h.same (F := fun _ => False) ((Same.refl _ w).alloc _) id id
  have hs : Same (fun k => k = rb) w (w.alloc V.nil.obj) := (Same.refl _ w).alloc _
  have hn : (w.alloc V.nil.obj).heap[w.heap.size]? = some V.nil.obj := heap_alloc_new _ _
  have H := Lib.hid h0; have HS := Lib.hid hs; have HN := Lib.hid hn
  clear h h0 hs hn
  go_enter Try.func24, Try.ntmps24
  go_wp2_with fail
  refine (takes_yes H.out 1 (by simp)).mono ?_
  rintro e w1 ⟨off, cap, rfl, hb, hs1, hr⟩
  have hk := hb.cells 0 k rfl
  rw [Nat.add_zero] at hk
  have hn1 := hs1.obj HN.out (by omega)
  have hlt := lt_of_block hn1
  have hs2 := HS.out.trans hs1 (fun _ _ h => h)
  have hX : wrap64 (k.toNat : Int) = k.toNat := by have := k.toNat_lt; unfold wrap64; omega
  have hv : vdec (k :: r) = none := by simp [vdec, k1, k2, k3, k4, k5]
  have q1 : ((k.toNat : Int) == 1) = false := by
    have : k.toNat ≠ 1 := fun e => k1 (UInt8.toNat_inj.1 e)
    simp; omega
  have q2 : ((k.toNat : Int) == 2) = false := by
    have : k.toNat ≠ 2 := fun e => k2 (UInt8.toNat_inj.1 e)
    simp; omega
  have q3 : ((k.toNat : Int) == 3) = false := by
    have : k.toNat ≠ 3 := fun e => k3 (UInt8.toNat_inj.1 e)
    simp; omega
  have q4 : ((k.toNat : Int) == 4) = false := by
    have : k.toNat ≠ 4 := fun e => k4 (UInt8.toNat_inj.1 e)
    simp; omega
  have q5 : ((k.toNat : Int) == 5) = false := by
    have : k.toNat ≠ 5 := fun e => k5 (UInt8.toNat_inj.1 e)
    simp; omega
  have hl2 := lt_of_block hn1
  obtain ⟨z0, z1, z2, z3⟩ := obj_cells hn1
  have f2 := obj_free hn1
  have HF := Lib.hid (Fin.start hs2 hn1 (Nat.le_refl _) hb0 hrb)
  have HV := Lib.hid hv
  clear hb hs1 hr hn1 hs2 k1 k2 k3 k4 k5 hv
  go_wp2_with fail
  refine fin_none (x := ⟨k.toNat, 0, ⟨#[]⟩, 0⟩) (W := w1) ?_ rfl rfl rfl HV.out
  repeat (with_reducible first | exact HF.out | refine Fin.drew ?_ | refine Fin.alloc ?_ _ | refine Fin.set (y := V.nil) ?_ _ _ _ _)

theorem value_reads {w : World} {rb b0 : Nat} {l : List UInt8} (h : Rd w rb b0 l) (hl : l.length ≤ 1000000) :
    Calls Try.prog 24 #[.pointer (some ⟨rb, 0, none⟩)] w fun e w' => Same (fun k => k = rb) w w' ∧ ValSays rb b0 l e w' := by
  cases l with
  | nil => exact value_none h
  | cons k r =>
    have hr : r.length ≤ 1000000 := by simp at hl; omega
    by_cases k1 : k = 1
    · subst k1; exact value_int h hr
    · by_cases k2 : k = 2
      · subst k2; exact value_bool h hr
      · by_cases k3 : k = 3
        · subst k3; exact value_str h hr
        · by_cases k4 : k = 4
          · subst k4; exact value_bytes h hr
          · by_cases k5 : k = 5
            · subst k5; exact value_float h hr
            · exact value_else h k1 k2 k3 k4 k5

end Go.Proofs.Ytmdkfbbagjcboaa
