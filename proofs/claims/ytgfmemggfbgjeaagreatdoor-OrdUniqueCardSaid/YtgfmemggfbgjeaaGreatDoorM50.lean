/-
  OrdUnique: the walk: it answers true and turns nothing that was there. Condition: the variable that errors.As reads holds the type of error.
-/
import Derived.Test.YtgfmemggfbgjeaaGreatDoorM49
import Derived.Test.YtgfmemggfbgjeaaGreatDoorM44
import Derived.Test.YtgfmemggfbgjeaaGreatDoorM45
import Derived.BigQuiet
namespace Go.Proofs.YtgfmemggfbgjeaaGreatDoor
open Go.RowKit Go.Extern.Stop Go.Stop Go.Extern Go.Lib
set_option maxRecDepth 1000000

theorem ReadU.ups {kd : IntKind} {w w' : World} {v : Value} {l : List Int} (h : ReadU kd w v l) (hs : Same (fun i => w.heap.size ≤ i) w w') : ReadU kd w' v l := by
  obtain ⟨ao, cap, rfl, hc⟩ := h
  refine ⟨ao, cap, rfl, fun j x hj => ?_⟩
  obtain ⟨b, off, rfl, hb, e0⟩ := hc j x hj
  exact ⟨b, off, rfl, Nat.lt_of_lt_of_le hb hs.size, (World.cell?_of_block (a := ⟨b, _, none⟩) (hs.block b hb (by omega))).trans e0⟩

theorem handle_lt {w : World} (h : Handle w) : 0 < w.heap.size := by
  unfold Handle at h
  exact lt_of_cell h

theorem zero_cells : Tryz.zeroCells33 = Array.replicate 256 (.int .i64 0) := by kernel_rfl

theorem uniq_new {w0 w1 w2 w3 : World} {x t bm bn : Nat} (h01 : Same (fun _ => False) w0 w1) (h12 : Same (fun _ => False) w1 w2) (h23 : Same (fun _ => False) w2 w3) (ho : OxAt w3 (fun k => w2.heap.size ≤ k) x t bm bn true (.pointer none) 1 0 [] 0) : OuI w0 w2.heap.size x t bm bn w3.heap.size [] ([] : List En).length (fun _ => 0) (w3.alloc (.cells Tryz.zeroCells33 33)) := by
  have e1 := h01.size; have e2 := h12.size; have e3 := h23.size
  have ha : Same (fun _ => False) w3 (w3.alloc (.cells Tryz.zeroCells33 33)) := (Same.refl _ w3).alloc _
  have ho' := (ho.mono (Q := fun k => w2.heap.size ≤ k ∧ k ≠ w3.heap.size) (fun k hk h => ⟨h, by omega⟩) (fun k h => (no_blk k h).elim)).kept (mat_none w3) (ha.weaken (fun _ _ h => h.elim))
  exact ⟨(((h01.trans h12 (fun _ _ h => h)).trans h23 (fun _ _ h => h)).trans ha (fun _ _ h => h)).weaken (fun _ _ h => h.elim), by omega, by omega, ⟨0, by simp, ho'⟩, fun e he => (by cases he), _, heap_alloc_new _ _, by rw [zero_cells]; simp, fun i hi => by rw [zero_cells]; simp [hi]⟩

theorem own_view {w : World} {B : Nat} {v : Value} {m : Int} (h : w.ownsRow B 39 4 v 1 (vals [numV m])) : ∃ g cap, v = .slice (some ⟨g, 0, none⟩) 1 cap ∧ B ≤ g ∧ g < w.heap.size ∧ w.cell? ⟨g, 0, none⟩ = some (.int .i64 1) ∧ w.cell? ⟨g, 0 + 1, none⟩ = some (.int .i64 m) ∧ w.cell? ⟨g, 0 + 2, none⟩ = some (.string ⟨#[]⟩) ∧ w.cell? ⟨g, 0 + 3, none⟩ = some (.float .f64 0) := by
  obtain ⟨ao, c, e, hc⟩ := ReadV.own (L := [numV m]) h
  obtain ⟨b, off, e2, hb, q0, q1, q2, q3⟩ := hc 0 (numV m) rfl
  subst e2
  rcases h.2 with ⟨_, h0⟩ | ⟨g, cap, cur, rfl, hg, hgb, _⟩
  · cases h0
  · cases e
    exact ⟨_, _, rfl, hg, hb, q0, q1, q2, q3⟩

set_option maxHeartbeats 32000000 in
theorem ordUnique_any {w : World} {v : Value} {ls : List Int} {more : Bool} (hg : Handle w) (hv : ReadU .i8 w v ls) (hls : ∀ b ∈ ls, -128 ≤ b ∧ b ≤ 127) :
    Calls Tryz.prog 3 #[v, .bool more] w fun e w' => e = .returned (.bool true) ∧ Same (fun _ => False) w w' := by
  have HK := Lib.hid (known_any hg)
  have hcap : ∃ ao cap, v = .slice ao ls.length cap := by
    obtain ⟨ao, cap, rfl, _⟩ := hv
    exact ⟨ao, cap, rfl⟩
  obtain ⟨ao, cap, rfl⟩ := hcap
  have HV := Lib.hid hv; have HLS := Lib.hid hls; have HG := Lib.hid hg
  clear hv hls hg
  by_cases h60 : (ls.length : Int) > 60
  · go_enter Tryz.func3, Tryz.ntmps3
    go_wp2_with fail
    refine HK.out.mono ?_
    rintro e w1 ⟨rfl, hs1⟩
    have HS1 := Lib.hid hs1
    clear hs1
    go_wp2_with fail
    go_ret
    exact ⟨rfl, HS1.out⟩
  · have h60' : ls.length ≤ 60 := by omega
    go_enter Tryz.func3, Tryz.ntmps3
    go_wp2_with fail
    refine HK.out.mono ?_
    rintro e w1 ⟨rfl, hs1⟩
    have HH := Lib.hid (hooks_any (mp := .pointer none) (Or.inl rfl) w1)
    have HS1 := Lib.hid hs1
    clear hs1
    go_wp2_with fail
    refine HH.out.mono ?_
    rintro r w2 ⟨hv, rfl, hs2, hh⟩
    obtain ⟨ve, g, cap2, bm, bn, rfl, hcap, c0, gl, obm, obn⟩ := hooks_cmp hh (n := 1) (by omega)
    replace obn : One w2 bn (.int .i64 1) 3 := obn
    have HN := Lib.hid (new_calm (uq := true) obm obn (mat_none w2) ⟨by omega, by omega⟩ (Or.inl rfl))
    have HS2 := Lib.hid hs2
    have hfd : ∀ w : World, (Instr.field 31 (.agg #[ve, .slice (some ⟨g, 0, none⟩) 3 cap2]) 1).run Tryz.prog w = .ok (.slice (some ⟨g, 0, none⟩) 3 cap2) w := fun _ => by kernel_rfl
    clear hs2 hh obm obn
    go_wp2_with fail
    refine HN.out.mono ?_
    rintro r w3 ⟨x, t, rfl, hO3, hm3, hs3⟩
    have HI := Lib.hid (uniq_new HS1.out HS2.out hs3 hO3)
    generalize w2.heap.size = PB at *
    clear hO3 hs3 c0 gl hm3
    go_wp2_with fail
    generalize w3.heap.size = wb at *
    generalize w3.alloc (.cells Tryz.zeroCells33 33) = w4 at *
    go_loopg [7, 8] ls.length (fun rr v7 v8 wr => ∃ (j : Nat) (L : List En) (f : Nat → Int), j + rr = ls.length ∧ v7 = .int .i64 L.length ∧ v8 = .int .i64 j ∧ Uq j L f ∧ OuI w PB x t bm bn wb L L.length f wr ∧ L.length ≤ j)
    case atStart => exact ⟨0, [], _, by omega, rfl, rfl, Uq.nil, HI.out, Nat.le_refl _⟩
    case round =>
      obtain ⟨j, L, f, hj, rfl, rfl, hN, hI, hLj⟩ := hrel
      by_cases hlast : j < ls.length
      · have hl' : (j : Int) < (ls.length : Int) := by omega
        have hj60 : j < 60 := by omega
        obtain ⟨ab, ao2, rfl, hla, hxx⟩ := (HV.out.ups hI.same).byte hlast
        have ha := HLS.out ls[j] (List.getElem_mem _)
        obtain ⟨a, hae⟩ : ∃ a, a = ls[j] := ⟨_, rfl⟩
        rw [← hae] at hxx ha
        have hwa : IntKind.i64.wrap a = a := by rw [IntKind.wrap_i64]; omega
        have HAE := Lib.hid hae; have HNN := Lib.hid hN; have HII := Lib.hid hI; have HJ := Lib.hid hj
        have HV1 := Lib.hid (num_any (w := wr) (m := a) (by omega) (by omega))
        clear hN hI hae hj
        go_wp2_with fail
        refine HV1.out.mono ?_
        rintro r w5 ⟨v1, rfl, ho5, hk5, hs5⟩
        cases more with
        | false =>
          have hK5 := hk5 _ _ _ _ _ (mat_none wr)
          have HINS := Lib.hid (nums_uniq (j := j) (rid := (j : Int) + 1) (HII.out.kept hs5) HNN.out hK5 ha rfl (by omega))
          obtain ⟨v1o, v1c, rfl⟩ := readV_len hK5.rd
          clear ho5 hk5 hs5 hK5 hxx hla
          go_wp2_with fail
          refine HINS.out.mono ?_
          rintro r wf hend
          rcases hend with ⟨hf, b, rfl, hb, hIf⟩ | ⟨hf, i', L', rfl, hIf, hN', hL'⟩
          · obtain ⟨_, _, he, hlb, hxx⟩ := (HV.out.ups hIf.same).byte hlast
            cases he
            rw [← HAE.out] at hxx
            have hixl := ix_lt a
            obtain ⟨hc, _, hwl⟩ := hIf.who.cell hixl
            have hu : IntKind.u8.wrap a = (ix a : Int) := by rw [IntKind.wrap_u8]; unfold ix; omega
            have hd1 : Same (fun _ => False) wf wf.drew := (Same.refl (fun _ => False) wf).drew
            have hgw : ∀ W : World, Same (fun _ => False) wf W → Handle W := fun W hs => (HG.out.same hIf.same (fun h => by have := handle_lt HG.out; omega)).same hs id
            have HCL := Lib.hid (class_twice (w := wf.drew) ⟨b, 0, none⟩ (hgw _ hd1))
            have HWH := Lib.hid (fun (W : World) (hs : Same (fun _ => False) wf W) => who_twice (w := W) (b := b) (id := f (ix a)) (hgw W hs) (hs.obj hb (fun h => h)))
            have HCE := Lib.hid (fun (W : World) (hs : Same (fun _ => False) wf W) => (hIf.kept hs).who.cell hixl)
            have HIK := Lib.hid (fun (W : World) (hs : Same (fun _ => False) wf W) => hIf.kept hs)
            have HD1 := Lib.hid hd1
            generalize hz : f (ix a) = z at *
            have HZ := Lib.hid hz
            have hzt : (z != 0) = true := by simpa using hf
            clear hIf hb hgw hd1 hz
            go_wp2_with fail
            go_region_with (first
              | (go_at_call 13; refine HCL.out.mono ?_; rintro r w9 ⟨rfl, hs9⟩; have HS9 := Lib.hid (HD1.out.trans hs9 (fun _ _ h => h)); obtain ⟨p0, _, pl⟩ := HCE.out w9 HS9.out; clear hs9)
              | (go_at_call 14; refine (HWH.out w9 HS9.out).mono ?_; rintro r w10 ⟨rfl, hs10⟩; have HS10 := Lib.hid (HS9.out.trans hs10 (fun _ _ h => h)); obtain ⟨q0, _, ql⟩ := HCE.out w10 HS10.out; clear hs10))
            all_goals (
              go_wp2_with fail
              go_roundg (ls.length - (j + 1))
              case measure => have := HJ.out; omega
              case rel => exact ⟨j + 1, L, f, by have := HJ.out; omega, rfl, by go_num, HNN.out.up, HIK.out _ HS10.out, by omega⟩)
          · obtain ⟨_, _, he, hlb, hxx⟩ := (HV.out.ups hIf.same).byte hlast
            cases he
            rw [← HAE.out] at hxx
            have hixl := ix_lt a
            obtain ⟨hc, hfz, hwl⟩ := hIf.who.cell hixl
            rw [hf] at hc
            have hu : IntKind.u8.wrap a = (ix a : Int) := by rw [IntKind.wrap_u8]; unfold ix; omega
            have HPUT := Lib.hid (hIf.put hixl ((j : Int) + 1))
            have HN' := Lib.hid hN'; have HL' := Lib.hid hL'
            clear hIf hN' hL' hf
            go_wp2_with fail
            go_roundg (ls.length - (j + 1))
            case measure => have := HJ.out; omega
            case rel => exact ⟨j + 1, L', upd f (ix a) ((j : Int) + 1), by have := HJ.out; omega, by rw [HL'.out]; go_num, by go_num, HN'.out, HPUT.out, by have := HL'.out; omega⟩
        | true =>
          have HV2 := Lib.hid (num_any (w := w5) (m := (j : Int)) (by omega) (by omega))
          have HO5 := Lib.hid ho5; have HS5 := Lib.hid hs5
          obtain ⟨g1, gc1, rfl, hg1b, hg1, _, _, _, _⟩ := own_view ho5
          clear ho5 hk5 hs5 hxx hla
          go_wp2_with fail
          refine HV2.out.mono ?_
          rintro r w6 ⟨v2, rfl, ho6, _, hs6⟩
          obtain ⟨g2, gc2, rfl, hg2b, hg2, q0, q1, q2, q3⟩ := own_view ho6
          have HO6 := Lib.hid (hs6.row HO5.out (fun _ _ h => h.elim)); have HS6 := Lib.hid (HS5.out.trans hs6 (fun _ _ h => h))
          clear ho6 hs6
          have hfin : ∀ (g3 gc3 : Nat) (w7 : World), w7.ownsRow wr.heap.size 39 4 (.slice (some ⟨g3, 0, none⟩) (1 + 1) gc3) (1 + 1) (vals [numV a] ++ [.int .i64 1, .int .i64 (j : Int), .string ⟨#[]⟩, .float .f64 0]) → w6.grownBy w7 (Value.slice (some ⟨g1, 0, none⟩) 1 gc1).ownBlock → KeyOk w7 (.pointer none) (.slice (some ⟨g3, 0, none⟩) (1 + 1) gc3) [numV a, numV (j : Int)] ∧ Same (fun _ => False) wr w7 := by
            intro g3 gc3 w7 hown hgrow
            have h67 : Same (fun k => (Value.slice (some ⟨g1, 0, none⟩) 1 gc1).ownBlock = some k) w6 w7 := (Same.refl _ w6).grown hgrow (fun k hk _ => hk)
            refine ⟨keyok_own (K := [numV a, numV (j : Int)]) hown rfl (fun z hz => ?_) (fun z hz => ?_) (by simp), HS6.out.trans h67 (fun k hk e => by rw [show g1 = k by simpa [Value.ownBlock] using e] at hg1b; omega)⟩
            · simp only [List.mem_cons, List.not_mem_nil, or_false] at hz
              rcases hz with rfl | rfl
              · exact numV_ok (by omega) (by omega)
              · exact numV_ok (by omega) (by omega)
            · simp only [List.mem_cons, List.not_mem_nil, or_false] at hz
              rcases hz with rfl | rfl <;> exact Nat.zero_le _
          have HFIN := Lib.hid hfin
          clear hfin
          have hszl : wr.heap.size ≤ w6.heap.size := HS6.out.size
          have HSZL := Lib.hid hszl
          clear hszl
          go_wp2_with (at_builtin; refine wpList_append_elem w6 rfl (.tmp 36) (.tmp 41) 34 rfl wr.heap.size 39 (.agg #[.int .i64 0, .int .i64 0, .string ⟨#[]⟩, .float .f64 0]) 4 40 Tryz.underlying34 value_info rfl (by decide) (.slice (some ⟨g1, 0, none⟩) 1 gc1) 1 (vals [numV a]) rfl HO6.out [.int .i64 1, .int .i64 (j : Int), .string ⟨#[]⟩, .float .f64 0] 1 ?_ rfl ?_ ?_ ?_ ?_ ?_; (focus (simp [go_sem])); (focus (intro u hu; simp at hu; rcases hu with rfl | rfl | rfl | rfl <;> rfl)); (focus (unfold maxLen; omega)); (focus omega); (focus exact HSZL.out); intro g3 gc3 w7 hown hgrow _ _ _; obtain ⟨hK7, hs7⟩ := HFIN.out g3 gc3 w7 hown hgrow; have HINS := Lib.hid (nums_uniq (j := j) (rid := (j : Int) + 1) (HII.out.kept hs7) HNN.out hK7 ha rfl (by omega)); clear hown hgrow hK7 hs7)
          refine HINS.out.mono ?_
          rintro r wf hend
          rcases hend with ⟨hf, b, rfl, hb, hIf⟩ | ⟨hf, i', L', rfl, hIf, hN', hL'⟩
          · obtain ⟨_, _, he, hlb, hxx⟩ := (HV.out.ups hIf.same).byte hlast
            cases he
            rw [← HAE.out] at hxx
            have hixl := ix_lt a
            obtain ⟨hc, _, hwl⟩ := hIf.who.cell hixl
            have hu : IntKind.u8.wrap a = (ix a : Int) := by rw [IntKind.wrap_u8]; unfold ix; omega
            have hd1 : Same (fun _ => False) wf wf.drew := (Same.refl (fun _ => False) wf).drew
            have hgw : ∀ W : World, Same (fun _ => False) wf W → Handle W := fun W hs => (HG.out.same hIf.same (fun h => by have := handle_lt HG.out; omega)).same hs id
            have HCL := Lib.hid (class_twice (w := wf.drew) ⟨b, 0, none⟩ (hgw _ hd1))
            have HWH := Lib.hid (fun (W : World) (hs : Same (fun _ => False) wf W) => who_twice (w := W) (b := b) (id := f (ix a)) (hgw W hs) (hs.obj hb (fun h => h)))
            have HCE := Lib.hid (fun (W : World) (hs : Same (fun _ => False) wf W) => (hIf.kept hs).who.cell hixl)
            have HIK := Lib.hid (fun (W : World) (hs : Same (fun _ => False) wf W) => hIf.kept hs)
            have HD1 := Lib.hid hd1
            generalize hz : f (ix a) = z at *
            have HZ := Lib.hid hz
            have hzt : (z != 0) = true := by simpa using hf
            clear hIf hb hgw hd1 hz
            go_wp2_with fail
            go_region_with (first
              | (go_at_call 13; refine HCL.out.mono ?_; rintro r w9 ⟨rfl, hs9⟩; have HS9 := Lib.hid (HD1.out.trans hs9 (fun _ _ h => h)); obtain ⟨p0, _, pl⟩ := HCE.out w9 HS9.out; clear hs9)
              | (go_at_call 14; refine (HWH.out w9 HS9.out).mono ?_; rintro r w10 ⟨rfl, hs10⟩; have HS10 := Lib.hid (HS9.out.trans hs10 (fun _ _ h => h)); obtain ⟨q0, _, ql⟩ := HCE.out w10 HS10.out; clear hs10))
            all_goals (
              go_wp2_with fail
              go_roundg (ls.length - (j + 1))
              case measure => have := HJ.out; omega
              case rel => exact ⟨j + 1, L, f, by have := HJ.out; omega, rfl, by go_num, HNN.out.up, HIK.out _ HS10.out, by omega⟩)
          · obtain ⟨_, _, he, hlb, hxx⟩ := (HV.out.ups hIf.same).byte hlast
            cases he
            rw [← HAE.out] at hxx
            have hixl := ix_lt a
            obtain ⟨hc, hfz, hwl⟩ := hIf.who.cell hixl
            rw [hf] at hc
            have hu : IntKind.u8.wrap a = (ix a : Int) := by rw [IntKind.wrap_u8]; unfold ix; omega
            have HPUT := Lib.hid (hIf.put hixl ((j : Int) + 1))
            have HN' := Lib.hid hN'; have HL' := Lib.hid hL'
            clear hIf hN' hL' hf
            go_wp2_with fail
            go_roundg (ls.length - (j + 1))
            case measure => have := HJ.out; omega
            case rel => exact ⟨j + 1, L', upd f (ix a) ((j : Int) + 1), by have := HJ.out; omega, by rw [HL'.out]; go_num, by go_num, HN'.out, HPUT.out, by have := HL'.out; omega⟩
      · have hl' : ¬ (j : Int) < (ls.length : Int) := by omega
        obtain ⟨c, hc, ho⟩ := hI.ox
        have HLEN := Lib.hid (ilen_any ho)
        have HSM := Lib.hid hI.same
        clear hI hN hj ho hc
        go_wp2_with fail
        refine HLEN.out.mono ?_
        rintro r w5 ⟨rfl, hs5⟩
        have HS5 := Lib.hid hs5
        clear hs5
        go_wp2_with fail
        go_ret
        exact ⟨rfl, (HSM.out.trans HS5.out (fun _ _ h => h.elim)).weaken (fun k hk h => by omega)⟩

end Go.Proofs.YtgfmemggfbgjeaaGreatDoor
