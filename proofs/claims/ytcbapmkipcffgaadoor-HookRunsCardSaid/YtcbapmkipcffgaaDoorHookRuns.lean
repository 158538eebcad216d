/-
  HookRuns: whatever user code does: the call comes back, called once; what it did is told, wrapped. Conditions: none.
-/
import Derived.Test.YtcbapmkipcffgaaDoorRunsRun
namespace Go.Proofs.YtcbapmkipcffgaaDoor
open Go.RowKit Go.Extern.Stop Go.Stop Go.Extern Go.Lib
set_option maxRecDepth 1000000

theorem rcell {w w' : World} {a : Addr} {v : Value} (hs : Same (fun _ => False) w w') (h : w.cell? a = some v) : w'.cell? a = some v := by
  have hlt : a.block < w.heap.size := by
    rcases Nat.lt_or_ge a.block w.heap.size with h1 | h1
    · exact h1
    · simp [World.cell?, Array.getElem?_eq_none h1] at h
  exact (World.cell?_of_block (hs.block _ hlt id)).trans h

theorem runs_to_below {w w' : World} (h : Same (fun _ => False) w w') : Below w.heap.size w w' := ⟨h.os, h.tape, h.output, h.size, fun k hk => h.block k hk id⟩
theorem runs_narrow {F : Nat → Prop} {w w' : World} (h : Same F w w') (hF : ∀ k, k < w.heap.size → ¬ F k) : Same (fun _ => False) w w' := ⟨h.os, h.tape, h.output, h.size, fun k hk _ => h.block k hk (hF k hk)⟩

theorem isErr_mark (v : Value) : IsErr (.iface 41 v) := fun w => run_typeAssert_hasB Tryd.underlying25 (by kernel_rfl) v 20 w
theorem isErr_bounds (v : Value) : IsErr (.iface 8 v) := fun w => run_typeAssert_hasB Tryd.underlying25 (by kernel_rfl) v 20 w
theorem noErr_string (v : Value) : NoErr (.iface 9 v) := fun w => run_typeAssert_lacksB Tryd.underlying25 (by kernel_rfl) (by kernel_rfl) v 20 w

theorem string_string (s : ByteArray) (w : World) : (Instr.typeAssert (.iface 9 (.string s)) 20 9 true).run Tryd.prog w = .ok (.tuple #[.string s, .bool true]) w := by kernel_rfl

set_option maxHeartbeats 8000000 in
theorem hookRuns_any {W : World} (wh : ByteArray) (how n : Int) (hg : Handle W) (hwh : wh.size ≤ maxLen) :
    Calls Tryd.prog 5 #[.string wh, .int .i64 how, .int .i64 n] W fun e w' => e = .returned (.bool true) ∧ Below W.heap.size W w' := by
  obtain ⟨W0, hW0⟩ : ∃ W0, W0 = (W.alloc (.cells #[.int .i64 how] 3)).alloc (.cells #[.int .i64 n] 3) := ⟨_, rfl⟩
  have hs0 : Same (fun _ => False) W W0 := by rw [hW0]; exact ((Same.refl _ W).alloc _).alloc _
  have hh : One W0 W.heap.size (.int .i64 how) 3 := by rw [hW0]; exact (One.new W _ _).alloc _
  have hn : One W0 (W.heap.size + 1) (.int .i64 n) 3 := by rw [hW0]; have := One.new (W.alloc (.cells #[.int .i64 how] 3)) (.int .i64 n) 3; simpa only [alloc_size] using this
  have HH := Lib.hid hh; have HN := Lib.hid hn; have HS0 := Lib.hid hs0; have HG := Lib.hid (hg.same hs0 id); have HW0 := Lib.hid hW0
  unfold maxLen at hwh
  clear hs0 hh hn hg hW0
  go_enter Tryd.func5, Tryd.ntmps5
  go_wp2_with fail
  rw [← HW0.out]
  refine (known_any HG.out).mono ?_
  rintro e w1 ⟨rfl, hs1⟩
  have h1h := hs1.one HH.out id
  have h1n := hs1.one HN.out id
  have cn := h1n.cell
  have hl1 := h1n.lt
  have HS1 := Lib.hid (HS0.out.trans hs1 (fun _ _ h => h)); have HG1 := Lib.hid (HG.out.same hs1 id); have H1H := Lib.hid h1h; have H1N := Lib.hid h1n
  clear hs1 h1h h1n HW0 HH HN HS0 HG
  by_cases hlen : (wh.size : Int) > 100
  · go_wp2_with fail
    go_ret
    exact ⟨rfl, runs_to_below HS1.out⟩
  obtain ⟨W2, hW2⟩ : ∃ W2, W2 = ((w1.alloc (.cells #[.int .i64 n] 43)).alloc (.cells #[.pointer (some ⟨w1.heap.size, 0, none⟩)] 41)).alloc (.cells #[.int .i64 0] 3) := ⟨_, rfl⟩
  have hs2 : Same (fun _ => False) w1 W2 := by rw [hW2]; exact (((Same.refl _ w1).alloc _).alloc _).alloc _
  have hpe : One W2 w1.heap.size (.int .i64 n) 43 := by rw [hW2]; exact ((One.new w1 _ _).alloc _).alloc _
  have hm : One W2 (w1.heap.size + 1) (.pointer (some ⟨w1.heap.size, 0, none⟩)) 41 := by rw [hW2]; have := (One.new (w1.alloc (.cells #[.int .i64 n] 43)) (.pointer (some ⟨w1.heap.size, 0, none⟩)) 41).alloc (.cells #[.int .i64 0] 3); simpa only [alloc_size] using this
  have hc : One W2 (w1.heap.size + 1 + 1) (.int .i64 0) 3 := by rw [hW2]; have := One.new ((w1.alloc (.cells #[.int .i64 n] 43)).alloc (.cells #[.pointer (some ⟨w1.heap.size, 0, none⟩)] 41)) (.int .i64 0) 3; simpa only [alloc_size] using this
  have hrun := runs_run (wh := wh) hc (hs2.one H1H.out id) hm (hs2.one H1N.out id) (by have := H1H.out.lt; omega) (by omega) (by omega)
  have HRUN := Lib.hid hrun; have HW2 := Lib.hid hW2; have HPE := Lib.hid hpe; have HS2 := Lib.hid (HS1.out.trans hs2 (fun _ _ h => h)); have HG2 := Lib.hid (HG1.out.same hs2 id); have H2H := Lib.hid (hs2.one H1H.out id); have H2N := Lib.hid (hs2.one H1N.out id)
  clear hs2 hpe hm hc hrun hW2 HG1 H1H H1N
  go_wp2_with fail
  rw [← HW2.out]
  refine HRUN.out.mono ?_
  rintro e w3 ⟨⟨e0, hend, ht⟩, hc3, hs3⟩
  have hout := runs_told hend ht
  have hne : W.heap.size ≠ w1.heap.size + 1 + 1 := by omega
  have h3h := hs3.one H2H.out hne
  have h3n := hs3.one H2N.out (by omega)
  have H3N := Lib.hid h3n
  have c8 := hc3.cell
  have c4 := h3h.cell
  have hl8 := hc3.lt
  have hl4 := h3h.lt
  have HPE3 := Lib.hid (hs3.one HPE.out (by omega)); have HG3 := Lib.hid (HG2.out.same hs3 (by have := HG2.out.lt; have := HS1.out.size; omega)); have H3H := Lib.hid h3h
  have HS3 := Lib.hid (runs_narrow (HS2.out.weaken (F' := fun k => k = w1.heap.size + 1 + 1) (fun _ _ h => h.elim) |>.trans hs3 (fun _ _ h => h)) (fun k hk h => by have := HS1.out.size; omega))
  have hm7 := i64_and7 how
  clear hs3 hc3 h3h h3n hend ht HRUN HW2 HPE HS2 HG2 H2H H2N hne
  rcases hout with ⟨hq, rfl⟩ | ⟨p, err, pan, rfl, ho, hq⟩
  · rcases hq with hq | hq
    · have q0 : (how % 8 == 0) = true := by simp [hq]
      go_wp2_with fail
      go_ret
      exact ⟨rfl, runs_to_below (HS3.out.alloc _)⟩
    · have q0 : (how % 8 == 0) = false := by simp [hq]
      have q7 : (how % 8 == 7) = true := by simp [hq]
      go_wp2_with fail
      go_ret
      exact ⟨rfl, runs_to_below (HS3.out.alloc _)⟩
  · have HO := Lib.hid ho
    rcases hq with ⟨hq, rfl, rfl⟩ | ⟨hq, rfl, rfl⟩ | ⟨hq, rfl, rfl⟩ | ⟨hq, rfl, v, rfl⟩ | ⟨hq, rfl, rfl⟩ | ⟨hq, rfl, rfl⟩
    · -- 1
      have e0 : (how % 8 == 0) = false := by simp [hq]
      have e1 : (how % 8 == 1) = true := by simp [hq]
      have e2 : (how % 8 == 2) = false := by simp [hq]
      have e3 : (how % 8 == 3) = false := by simp [hq]
      have e4 : (how % 8 == 4) = false := by simp [hq]
      have e5 : (how % 8 == 5) = false := by simp [hq]
      have e6 : (how % 8 == 6) = false := by simp [hq]
      have e7 : (how % 8 == 7) = false := by simp [hq]
      have hU : ∀ w', Same (fun _ => False) w3 w' → Unwraps w' p [errCb, markV w1.heap.size] := fun w' h => unw_err (h.obj ho id)
      have hWr : ∀ w', Same (fun _ => False) w3 w' → Calls Tryd.prog 25 #[faultV p, .bool true] w' fun e w'' => e = .returned (.bool true) ∧ Same (fun _ => False) w' w'' := fun w' h => wraps_told (fun w2 h2 => hU w2 (h.trans h2 (fun _ _ h => h))) (HG3.out.same h id)
      have hIs := fun w' (h : Same (fun _ => False) w3 w') => is_cb (hU w' h)
      have HIS := Lib.hid hIs; have HWR := Lib.hid hWr; have HU := Lib.hid hU; have HQ := Lib.hid hq
      clear hU hWr hIs hq
      have hg4 := HG3.out.alloc (.cells #[.pointer none] 48)
      have hs4 := (Same.refl (fun _ => False) w3).alloc (.cells #[.pointer none] 48)
      have HAS := Lib.hid (fa_as p w3.heap.size hg4 (One.new w3 (.pointer none) 48))
      have HS4 := Lib.hid hs4
      clear hs4 hg4
      go_wp2_with fail
      refine HAS.out.mono ?_
      rintro e w5 ⟨rfl, hs5, ho5⟩
      have h35 := runs_narrow ((HS4.out.weaken (F' := fun k => k = w3.heap.size) (fun _ _ h => h.elim)).trans hs5 (fun _ _ h => h)) (fun k hk h => by omega)
      have cf := ho5.cell
      obtain ⟨x0, x1, x2⟩ := fault_cells (h35.obj HO.out id)
      have c45 := (h35.one H3H.out id).cell
      have H35 := Lib.hid h35; have HO5 := Lib.hid ho5
      clear hs5 ho5 h35 HAS HS4
      go_wp2_with fail
      refine (HIS.out _ H35.out).mono ?_
      rintro e w6 ⟨rfl, hs6⟩
      have h36 := H35.out.trans hs6 (fun _ _ h => h)
      have c46 := (h36.one H3H.out id).cell
      have cf6 := (hs6.one HO5.out id).cell
      have H36 := Lib.hid h36; have HO6 := Lib.hid (hs6.one HO5.out id)
      clear hs6 h36 HIS
      go_wp2_with fail
      refine (HWR.out _ H36.out).mono ?_
      rintro e w7 ⟨rfl, hs7⟩
      have h37 := H36.out.trans hs7 (fun _ _ h => h)
      have c47 := (h37.one H3H.out id).cell
      have cf7 := (hs7.one HO6.out id).cell
      obtain ⟨y0, y1, y2⟩ := fault_cells (h37.obj HO.out id)
      have H37 := Lib.hid h37; have HO7 := Lib.hid (hs7.one HO6.out id)
      clear hs7 h37 HWR cf cf6 c45 c46 x0 x1 x2
      go_wp2_with fail
      have r1 := (H37.out.one H3N.out id).cell
      have hst := fun (w' : World) (h : Same (fun _ => False) w7 w') => struck_told ((H37.out.trans h (fun _ _ h => h)).obj HO.out id) ((H37.out.trans h (fun _ _ h => h)).one HPE3.out id) (HG3.out.same (H37.out.trans h (fun _ _ h => h)) id)
      have HST := Lib.hid hst
      clear hst
      first
        | (go_region_held3 (fun w' => w'.cell? ⟨W.heap.size + 1, 0, none⟩ = some (.int .i64 n) ∧ w'.cell? ⟨W.heap.size, 0, none⟩ = some (.int .i64 how) ∧ w'.cell? ⟨w3.heap.size, 0, none⟩ = some (.pointer (some ⟨p, 0, none⟩)) ∧ w'.cell? ⟨p, 1, none⟩ = some (markV w1.heap.size) ∧ w'.cell? ⟨p, 2, none⟩ = some (.nilIface) ∧ Same (fun _ => False) w7 w')
            (first | exact ⟨by assumption, by assumption, by assumption, by assumption, by assumption, by assumption⟩ | exact ⟨by assumption, by assumption, by assumption, by assumption, by assumption, Same.refl _ _⟩ | exact ⟨by assumption, by assumption, by assumption, by assumption, by assumption, runs_drew (Same.refl _ _)⟩ | exact ⟨by assumption, by assumption, by assumption, by assumption, by assumption, runs_drew (by assumption)⟩)
            (first | (go_at_call 14; refine (HST.out _ (by first | assumption | exact runs_drew (Same.refl _ w7) | exact Same.refl _ w7)).mono ?_; rintro e w' ⟨rfl, hs'⟩; have j1 := rcell (a := ⟨W.heap.size + 1, 0, none⟩) hs' (by first | assumption | exact r1); have j2 := rcell (a := ⟨W.heap.size, 0, none⟩) hs' (by first | assumption | exact c47); have j3 := rcell (a := ⟨w3.heap.size, 0, none⟩) hs' (by first | assumption | exact cf7); have j4 := rcell (a := ⟨p, 1, none⟩) hs' (by first | assumption | exact y1); have j5 := rcell (a := ⟨p, 2, none⟩) hs' (by first | assumption | exact y2); have j6 : Same (fun _ => False) w7 w' := Same.trans (by first | assumption | exact runs_drew (Same.refl _ w7) | exact Same.refl _ w7) hs' (fun _ _ h => h))))
        | fail
      all_goals
        have HJ := Lib.hid (HS3.out.trans (H37.out.trans j6 (fun _ _ h => h)) (fun _ _ h => h))
        clear j1 j2 j3 j4 j5 j6 hs'
        go_wp2_with fail
        go_ret
        exact ⟨by have hq := HQ.out; simp [hq], runs_to_below HJ.out⟩
    · -- 2
      have e0 : (how % 8 == 0) = false := by simp [hq]
      have e1 : (how % 8 == 1) = false := by simp [hq]
      have e2 : (how % 8 == 2) = true := by simp [hq]
      have e3 : (how % 8 == 3) = false := by simp [hq]
      have e4 : (how % 8 == 4) = false := by simp [hq]
      have e5 : (how % 8 == 5) = false := by simp [hq]
      have e6 : (how % 8 == 6) = false := by simp [hq]
      have e7 : (how % 8 == 7) = false := by simp [hq]
      have hU : ∀ w', Same (fun _ => False) w3 w' → Unwraps w' p [errCb, markV w1.heap.size] := fun w' h => unw_panerr (h.obj ho id) (isErr_mark _)
      have hWr : ∀ w', Same (fun _ => False) w3 w' → Calls Tryd.prog 25 #[faultV p, .bool true] w' fun e w'' => e = .returned (.bool true) ∧ Same (fun _ => False) w' w'' := fun w' h => wraps_told (fun w2 h2 => hU w2 (h.trans h2 (fun _ _ h => h))) (HG3.out.same h id)
      have hIs := fun w' (h : Same (fun _ => False) w3 w') => is_cb (hU w' h)
      have HIS := Lib.hid hIs; have HWR := Lib.hid hWr; have HU := Lib.hid hU; have HQ := Lib.hid hq
      clear hU hWr hIs hq
      have hg4 := HG3.out.alloc (.cells #[.pointer none] 48)
      have hs4 := (Same.refl (fun _ => False) w3).alloc (.cells #[.pointer none] 48)
      have HAS := Lib.hid (fa_as p w3.heap.size hg4 (One.new w3 (.pointer none) 48))
      have HS4 := Lib.hid hs4
      clear hs4 hg4
      go_wp2_with fail
      refine HAS.out.mono ?_
      rintro e w5 ⟨rfl, hs5, ho5⟩
      have h35 := runs_narrow ((HS4.out.weaken (F' := fun k => k = w3.heap.size) (fun _ _ h => h.elim)).trans hs5 (fun _ _ h => h)) (fun k hk h => by omega)
      have cf := ho5.cell
      obtain ⟨x0, x1, x2⟩ := fault_cells (h35.obj HO.out id)
      have c45 := (h35.one H3H.out id).cell
      have H35 := Lib.hid h35; have HO5 := Lib.hid ho5
      clear hs5 ho5 h35 HAS HS4
      go_wp2_with fail
      refine (HIS.out _ H35.out).mono ?_
      rintro e w6 ⟨rfl, hs6⟩
      have h36 := H35.out.trans hs6 (fun _ _ h => h)
      have c46 := (h36.one H3H.out id).cell
      have cf6 := (hs6.one HO5.out id).cell
      have H36 := Lib.hid h36; have HO6 := Lib.hid (hs6.one HO5.out id)
      clear hs6 h36 HIS
      go_wp2_with fail
      refine (HWR.out _ H36.out).mono ?_
      rintro e w7 ⟨rfl, hs7⟩
      have h37 := H36.out.trans hs7 (fun _ _ h => h)
      have c47 := (h37.one H3H.out id).cell
      have cf7 := (hs7.one HO6.out id).cell
      obtain ⟨y0, y1, y2⟩ := fault_cells (h37.obj HO.out id)
      have H37 := Lib.hid h37; have HO7 := Lib.hid (hs7.one HO6.out id)
      clear hs7 h37 HWR cf cf6 c45 c46 x0 x1 x2
      go_wp2_with fail
      have r1 := (H37.out.one H3N.out id).cell
      have hst := fun (w' : World) (h : Same (fun _ => False) w7 w') => struck_pan ((H37.out.trans h (fun _ _ h => h)).obj HO.out id) ((H37.out.trans h (fun _ _ h => h)).one HPE3.out id) (HG3.out.same (H37.out.trans h (fun _ _ h => h)) id)
      have HST := Lib.hid hst
      clear hst
      first
        | (go_region_held3 (fun w' => w'.cell? ⟨W.heap.size + 1, 0, none⟩ = some (.int .i64 n) ∧ w'.cell? ⟨W.heap.size, 0, none⟩ = some (.int .i64 how) ∧ w'.cell? ⟨w3.heap.size, 0, none⟩ = some (.pointer (some ⟨p, 0, none⟩)) ∧ w'.cell? ⟨p, 1, none⟩ = some (.nilIface) ∧ w'.cell? ⟨p, 2, none⟩ = some (markV w1.heap.size) ∧ Same (fun _ => False) w7 w')
            (first | exact ⟨by assumption, by assumption, by assumption, by assumption, by assumption, by assumption⟩ | exact ⟨by assumption, by assumption, by assumption, by assumption, by assumption, Same.refl _ _⟩ | exact ⟨by assumption, by assumption, by assumption, by assumption, by assumption, runs_drew (Same.refl _ _)⟩ | exact ⟨by assumption, by assumption, by assumption, by assumption, by assumption, runs_drew (by assumption)⟩)
            (first | (go_at_call 14; refine (HST.out _ (by first | assumption | exact runs_drew (Same.refl _ w7) | exact Same.refl _ w7)).mono ?_; rintro e w' ⟨rfl, hs'⟩; have j1 := rcell (a := ⟨W.heap.size + 1, 0, none⟩) hs' (by first | assumption | exact r1); have j2 := rcell (a := ⟨W.heap.size, 0, none⟩) hs' (by first | assumption | exact c47); have j3 := rcell (a := ⟨w3.heap.size, 0, none⟩) hs' (by first | assumption | exact cf7); have j4 := rcell (a := ⟨p, 1, none⟩) hs' (by first | assumption | exact y1); have j5 := rcell (a := ⟨p, 2, none⟩) hs' (by first | assumption | exact y2); have j6 : Same (fun _ => False) w7 w' := Same.trans (by first | assumption | exact runs_drew (Same.refl _ w7) | exact Same.refl _ w7) hs' (fun _ _ h => h))))
        | fail
      all_goals
        have HJ := Lib.hid (HS3.out.trans (H37.out.trans j6 (fun _ _ h => h)) (fun _ _ h => h))
        clear j1 j2 j3 j4 j5 j6 hs'
        go_wp2_with fail
        go_ret
        exact ⟨by have hq := HQ.out; simp [hq], runs_to_below HJ.out⟩
    · -- 3
      have e0 : (how % 8 == 0) = false := by simp [hq]
      have e1 : (how % 8 == 1) = false := by simp [hq]
      have e2 : (how % 8 == 2) = false := by simp [hq]
      have e3 : (how % 8 == 3) = true := by simp [hq]
      have e4 : (how % 8 == 4) = false := by simp [hq]
      have e5 : (how % 8 == 5) = false := by simp [hq]
      have e6 : (how % 8 == 6) = false := by simp [hq]
      have e7 : (how % 8 == 7) = false := by simp [hq]
      have hU : ∀ w', Same (fun _ => False) w3 w' → Unwraps w' p [errCb] := fun w' h => unw_pan (h.obj ho id) (noErr_int _)
      have hWr : ∀ w', Same (fun _ => False) w3 w' → Calls Tryd.prog 25 #[faultV p, .bool false] w' fun e w'' => e = .returned (.bool true) ∧ Same (fun _ => False) w' w'' := fun w' h => wraps_plain (hU w' h)
      have hIs := fun w' (h : Same (fun _ => False) w3 w') => is_cb (hU w' h)
      have HIS := Lib.hid hIs; have HWR := Lib.hid hWr; have HU := Lib.hid hU; have HQ := Lib.hid hq
      clear hU hWr hIs hq
      have hg4 := HG3.out.alloc (.cells #[.pointer none] 48)
      have hs4 := (Same.refl (fun _ => False) w3).alloc (.cells #[.pointer none] 48)
      have HAS := Lib.hid (fa_as p w3.heap.size hg4 (One.new w3 (.pointer none) 48))
      have HS4 := Lib.hid hs4
      clear hs4 hg4
      go_wp2_with fail
      refine HAS.out.mono ?_
      rintro e w5 ⟨rfl, hs5, ho5⟩
      have h35 := runs_narrow ((HS4.out.weaken (F' := fun k => k = w3.heap.size) (fun _ _ h => h.elim)).trans hs5 (fun _ _ h => h)) (fun k hk h => by omega)
      have cf := ho5.cell
      obtain ⟨x0, x1, x2⟩ := fault_cells (h35.obj HO.out id)
      have c45 := (h35.one H3H.out id).cell
      have H35 := Lib.hid h35; have HO5 := Lib.hid ho5
      clear hs5 ho5 h35 HAS HS4
      go_wp2_with fail
      refine (HIS.out _ H35.out).mono ?_
      rintro e w6 ⟨rfl, hs6⟩
      have h36 := H35.out.trans hs6 (fun _ _ h => h)
      have c46 := (h36.one H3H.out id).cell
      have cf6 := (hs6.one HO5.out id).cell
      have H36 := Lib.hid h36; have HO6 := Lib.hid (hs6.one HO5.out id)
      clear hs6 h36 HIS
      go_wp2_with fail
      refine (HWR.out _ H36.out).mono ?_
      rintro e w7 ⟨rfl, hs7⟩
      have h37 := H36.out.trans hs7 (fun _ _ h => h)
      have c47 := (h37.one H3H.out id).cell
      have cf7 := (hs7.one HO6.out id).cell
      obtain ⟨y0, y1, y2⟩ := fault_cells (h37.obj HO.out id)
      have H37 := Lib.hid h37; have HO7 := Lib.hid (hs7.one HO6.out id)
      clear hs7 h37 HWR cf cf6 c45 c46 x0 x1 x2
      go_wp2_with fail
      have r1 := (H37.out.one H3N.out id).cell
      have hst := fun (w' : World) (h : Same (fun _ => False) w7 w') => struck_int ((H37.out.trans h (fun _ _ h => h)).obj HO.out id) (HG3.out.same (H37.out.trans h (fun _ _ h => h)) id)
      have HST := Lib.hid hst
      clear hst
      first
        | (go_region_held3 (fun w' => w'.cell? ⟨W.heap.size + 1, 0, none⟩ = some (.int .i64 n) ∧ w'.cell? ⟨W.heap.size, 0, none⟩ = some (.int .i64 how) ∧ w'.cell? ⟨w3.heap.size, 0, none⟩ = some (.pointer (some ⟨p, 0, none⟩)) ∧ w'.cell? ⟨p, 1, none⟩ = some (.nilIface) ∧ w'.cell? ⟨p, 2, none⟩ = some (.iface 3 (.int .i64 n)) ∧ Same (fun _ => False) w7 w')
            (first | exact ⟨by assumption, by assumption, by assumption, by assumption, by assumption, by assumption⟩ | exact ⟨by assumption, by assumption, by assumption, by assumption, by assumption, Same.refl _ _⟩ | exact ⟨by assumption, by assumption, by assumption, by assumption, by assumption, runs_drew (Same.refl _ _)⟩ | exact ⟨by assumption, by assumption, by assumption, by assumption, by assumption, runs_drew (by assumption)⟩)
            (first | (go_at_call 14; refine (HST.out _ (by first | assumption | exact runs_drew (Same.refl _ w7) | exact Same.refl _ w7)).mono ?_; rintro e w' ⟨rfl, hs'⟩; have j1 := rcell (a := ⟨W.heap.size + 1, 0, none⟩) hs' (by first | assumption | exact r1); have j2 := rcell (a := ⟨W.heap.size, 0, none⟩) hs' (by first | assumption | exact c47); have j3 := rcell (a := ⟨w3.heap.size, 0, none⟩) hs' (by first | assumption | exact cf7); have j4 := rcell (a := ⟨p, 1, none⟩) hs' (by first | assumption | exact y1); have j5 := rcell (a := ⟨p, 2, none⟩) hs' (by first | assumption | exact y2); have j6 : Same (fun _ => False) w7 w' := Same.trans (by first | assumption | exact runs_drew (Same.refl _ w7) | exact Same.refl _ w7) hs' (fun _ _ h => h))))
        | fail
      all_goals
        have HJ := Lib.hid (HS3.out.trans (H37.out.trans j6 (fun _ _ h => h)) (fun _ _ h => h))
        clear j1 j2 j3 j4 j5 j6 hs'
        go_wp2_with fail
        go_ret
        exact ⟨by have hq := HQ.out; simp [hq], runs_to_below HJ.out⟩
    · -- 4
      have e0 : (how % 8 == 0) = false := by simp [hq]
      have e1 : (how % 8 == 1) = false := by simp [hq]
      have e2 : (how % 8 == 2) = false := by simp [hq]
      have e3 : (how % 8 == 3) = false := by simp [hq]
      have e4 : (how % 8 == 4) = true := by simp [hq]
      have e5 : (how % 8 == 5) = false := by simp [hq]
      have e6 : (how % 8 == 6) = false := by simp [hq]
      have e7 : (how % 8 == 7) = false := by simp [hq]
      have hU : ∀ w', Same (fun _ => False) w3 w' → Unwraps w' p [errCb, .iface 8 v] := fun w' h => unw_panerr (h.obj ho id) (isErr_bounds _)
      have hWr : ∀ w', Same (fun _ => False) w3 w' → Calls Tryd.prog 25 #[faultV p, .bool false] w' fun e w'' => e = .returned (.bool true) ∧ Same (fun _ => False) w' w'' := fun w' h => wraps_plain (hU w' h)
      have hIs := fun w' (h : Same (fun _ => False) w3 w') => is_cb (hU w' h)
      have HIS := Lib.hid hIs; have HWR := Lib.hid hWr; have HU := Lib.hid hU; have HQ := Lib.hid hq
      clear hU hWr hIs hq
      have hg4 := HG3.out.alloc (.cells #[.pointer none] 48)
      have hs4 := (Same.refl (fun _ => False) w3).alloc (.cells #[.pointer none] 48)
      have HAS := Lib.hid (fa_as p w3.heap.size hg4 (One.new w3 (.pointer none) 48))
      have HS4 := Lib.hid hs4
      clear hs4 hg4
      go_wp2_with fail
      refine HAS.out.mono ?_
      rintro e w5 ⟨rfl, hs5, ho5⟩
      have h35 := runs_narrow ((HS4.out.weaken (F' := fun k => k = w3.heap.size) (fun _ _ h => h.elim)).trans hs5 (fun _ _ h => h)) (fun k hk h => by omega)
      have cf := ho5.cell
      obtain ⟨x0, x1, x2⟩ := fault_cells (h35.obj HO.out id)
      have c45 := (h35.one H3H.out id).cell
      have H35 := Lib.hid h35; have HO5 := Lib.hid ho5
      clear hs5 ho5 h35 HAS HS4
      go_wp2_with fail
      refine (HIS.out _ H35.out).mono ?_
      rintro e w6 ⟨rfl, hs6⟩
      have h36 := H35.out.trans hs6 (fun _ _ h => h)
      have c46 := (h36.one H3H.out id).cell
      have cf6 := (hs6.one HO5.out id).cell
      have H36 := Lib.hid h36; have HO6 := Lib.hid (hs6.one HO5.out id)
      clear hs6 h36 HIS
      have hte : ∀ w : World, (Instr.typeAssert (.iface 8 v) 20 25 true).run Tryd.prog w = .ok (.tuple #[.iface 8 v, .bool true]) w := isErr_bounds v
      go_wp2_with fail
      refine (HWR.out _ H36.out).mono ?_
      rintro e w7 ⟨rfl, hs7⟩
      have h37 := H36.out.trans hs7 (fun _ _ h => h)
      have c47 := (h37.one H3H.out id).cell
      have cf7 := (hs7.one HO6.out id).cell
      obtain ⟨y0, y1, y2⟩ := fault_cells (h37.obj HO.out id)
      have H37 := Lib.hid h37; have HO7 := Lib.hid (hs7.one HO6.out id)
      clear hs7 h37 HWR cf cf6 c45 c46 x0 x1 x2
      go_wp2_with fail
      go_ret
      exact ⟨rfl, runs_to_below (HS3.out.trans H37.out (fun _ _ h => h))⟩
    · -- 5
      have e0 : (how % 8 == 0) = false := by simp [hq]
      have e1 : (how % 8 == 1) = false := by simp [hq]
      have e2 : (how % 8 == 2) = false := by simp [hq]
      have e3 : (how % 8 == 3) = false := by simp [hq]
      have e4 : (how % 8 == 4) = false := by simp [hq]
      have e5 : (how % 8 == 5) = true := by simp [hq]
      have e6 : (how % 8 == 6) = false := by simp [hq]
      have e7 : (how % 8 == 7) = false := by simp [hq]
      have hU : ∀ w', Same (fun _ => False) w3 w' → Unwraps w' p [errCb, errNo 70] := fun w' h => unw_err (h.obj ho id)
      have hWr : ∀ w', Same (fun _ => False) w3 w' → Calls Tryd.prog 25 #[faultV p, .bool false] w' fun e w'' => e = .returned (.bool true) ∧ Same (fun _ => False) w' w'' := fun w' h => wraps_plain (hU w' h)
      have hIs := fun w' (h : Same (fun _ => False) w3 w') => is_cb (hU w' h)
      have HIS := Lib.hid hIs; have HWR := Lib.hid hWr; have HU := Lib.hid hU; have HQ := Lib.hid hq
      clear hU hWr hIs hq
      have hg4 := HG3.out.alloc (.cells #[.pointer none] 48)
      have hs4 := (Same.refl (fun _ => False) w3).alloc (.cells #[.pointer none] 48)
      have HAS := Lib.hid (fa_as p w3.heap.size hg4 (One.new w3 (.pointer none) 48))
      have HS4 := Lib.hid hs4
      clear hs4 hg4
      go_wp2_with fail
      refine HAS.out.mono ?_
      rintro e w5 ⟨rfl, hs5, ho5⟩
      have h35 := runs_narrow ((HS4.out.weaken (F' := fun k => k = w3.heap.size) (fun _ _ h => h.elim)).trans hs5 (fun _ _ h => h)) (fun k hk h => by omega)
      have cf := ho5.cell
      obtain ⟨x0, x1, x2⟩ := fault_cells (h35.obj HO.out id)
      have c45 := (h35.one H3H.out id).cell
      have H35 := Lib.hid h35; have HO5 := Lib.hid ho5
      clear hs5 ho5 h35 HAS HS4
      go_wp2_with fail
      refine (HIS.out _ H35.out).mono ?_
      rintro e w6 ⟨rfl, hs6⟩
      have h36 := H35.out.trans hs6 (fun _ _ h => h)
      have c46 := (h36.one H3H.out id).cell
      have cf6 := (hs6.one HO5.out id).cell
      have H36 := Lib.hid h36; have HO6 := Lib.hid (hs6.one HO5.out id)
      clear hs6 h36 HIS
      go_wp2_with fail
      refine (HWR.out _ H36.out).mono ?_
      rintro e w7 ⟨rfl, hs7⟩
      have h37 := H36.out.trans hs7 (fun _ _ h => h)
      have c47 := (h37.one H3H.out id).cell
      have cf7 := (hs7.one HO6.out id).cell
      obtain ⟨y0, y1, y2⟩ := fault_cells (h37.obj HO.out id)
      have H37 := Lib.hid h37; have HO7 := Lib.hid (hs7.one HO6.out id)
      clear hs7 h37 HWR cf cf6 c45 c46 x0 x1 x2
      go_wp2_with fail
      refine (is_other (by decide) (HU.out _ H37.out)).mono ?_
      rintro e w8 ⟨rfl, hs8⟩
      have h38 := H37.out.trans hs8 (fun _ _ h => h)
      have cf8 := (hs8.one HO7.out id).cell
      obtain ⟨z0, z1, z2⟩ := fault_cells (h38.obj HO.out id)
      have H38 := Lib.hid h38
      clear hs8 h38
      go_wp2_with fail
      go_ret
      exact ⟨rfl, runs_to_below (HS3.out.trans H38.out (fun _ _ h => h))⟩
    · -- 6
      have e0 : (how % 8 == 0) = false := by simp [hq]
      have e1 : (how % 8 == 1) = false := by simp [hq]
      have e2 : (how % 8 == 2) = false := by simp [hq]
      have e3 : (how % 8 == 3) = false := by simp [hq]
      have e4 : (how % 8 == 4) = false := by simp [hq]
      have e5 : (how % 8 == 5) = false := by simp [hq]
      have e6 : (how % 8 == 6) = true := by simp [hq]
      have e7 : (how % 8 == 7) = false := by simp [hq]
      have hU : ∀ w', Same (fun _ => False) w3 w' → Unwraps w' p [errCb] := fun w' h => unw_pan (h.obj ho id) (noErr_string _)
      have hWr : ∀ w', Same (fun _ => False) w3 w' → Calls Tryd.prog 25 #[faultV p, .bool false] w' fun e w'' => e = .returned (.bool true) ∧ Same (fun _ => False) w' w'' := fun w' h => wraps_plain (hU w' h)
      have hIs := fun w' (h : Same (fun _ => False) w3 w') => is_cb (hU w' h)
      have HIS := Lib.hid hIs; have HWR := Lib.hid hWr; have HU := Lib.hid hU; have HQ := Lib.hid hq
      clear hU hWr hIs hq
      have hg4 := HG3.out.alloc (.cells #[.pointer none] 48)
      have hs4 := (Same.refl (fun _ => False) w3).alloc (.cells #[.pointer none] 48)
      have HAS := Lib.hid (fa_as p w3.heap.size hg4 (One.new w3 (.pointer none) 48))
      have HS4 := Lib.hid hs4
      clear hs4 hg4
      go_wp2_with fail
      refine HAS.out.mono ?_
      rintro e w5 ⟨rfl, hs5, ho5⟩
      have h35 := runs_narrow ((HS4.out.weaken (F' := fun k => k = w3.heap.size) (fun _ _ h => h.elim)).trans hs5 (fun _ _ h => h)) (fun k hk h => by omega)
      have cf := ho5.cell
      obtain ⟨x0, x1, x2⟩ := fault_cells (h35.obj HO.out id)
      have c45 := (h35.one H3H.out id).cell
      have H35 := Lib.hid h35; have HO5 := Lib.hid ho5
      clear hs5 ho5 h35 HAS HS4
      go_wp2_with fail
      refine (HIS.out _ H35.out).mono ?_
      rintro e w6 ⟨rfl, hs6⟩
      have h36 := H35.out.trans hs6 (fun _ _ h => h)
      have c46 := (h36.one H3H.out id).cell
      have cf6 := (hs6.one HO5.out id).cell
      have H36 := Lib.hid h36; have HO6 := Lib.hid (hs6.one HO5.out id)
      clear hs6 h36 HIS
      have hts := string_string ⟨#[116, 101, 120, 116]⟩
      go_wp2_with fail
      refine (HWR.out _ H36.out).mono ?_
      rintro e w7 ⟨rfl, hs7⟩
      have h37 := H36.out.trans hs7 (fun _ _ h => h)
      have c47 := (h37.one H3H.out id).cell
      have cf7 := (hs7.one HO6.out id).cell
      obtain ⟨y0, y1, y2⟩ := fault_cells (h37.obj HO.out id)
      have H37 := Lib.hid h37; have HO7 := Lib.hid (hs7.one HO6.out id)
      clear hs7 h37 HWR cf cf6 c45 c46 x0 x1 x2
      go_wp2_with fail
      go_ret
      exact ⟨rfl, runs_to_below (HS3.out.trans H37.out (fun _ _ h => h))⟩

end Go.Proofs.YtcbapmkipcffgaaDoor
