/-
  OrdFails: the walk: it answers true and turns nothing that was there. Condition: the variable that errors.As reads holds the type of error.
-/
import Derived.Test.YtgfmemggfbgjeaaGreatDoorM57
import Derived.Test.YtgfmemggfbgjeaaGreatDoorM44
import Derived.Test.YtgfmemggfbgjeaaGreatDoorM45
import Derived.BigQuiet
namespace Go.Proofs.YtgfmemggfbgjeaaGreatDoor
open Go.RowKit Go.Extern.Stop Go.Stop Go.Extern Go.Lib
set_option maxRecDepth 1000000

theorem ReadU.ups3 {kd : IntKind} {w w' : World} {v : Value} {l : List Int} (h : ReadU kd w v l) (hs : Same (fun i => w.heap.size ≤ i) w w') : ReadU kd w' v l := by
  obtain ⟨ao, cap, rfl, hc⟩ := h
  refine ⟨ao, cap, rfl, fun j x hj => ?_⟩
  obtain ⟨b, off, rfl, hb, e0⟩ := hc j x hj
  exact ⟨b, off, rfl, Nat.lt_of_lt_of_le hb hs.size, (World.cell?_of_block (a := ⟨b, _, none⟩) (hs.block b hb (by omega))).trans e0⟩

theorem fails_new {w w1 w2 w3 : World} {x t bm bn M : Nat} (h01 : Same (fun _ => False) w w1) (hM : M = w1.heap.size) (h12 : Same (fun _ => False) (w1.alloc (meterObj 0 0 0 0)) w2) (h23 : Same (fun _ => False) w2 w3) (ho : OxAt w3 (fun k => w2.heap.size ≤ k) x t bm bn false (mtp M) 0 0 [] 0) : OrQ w w2.heap.size M x t bm bn false 0 (.slice none 0 0) [] [] 0 w3 := by
  have e1 := h01.size; have e2 := h12.size; have e3 := h23.size
  have e4 : (w1.alloc (meterObj 0 0 0 0)).heap.size = w1.heap.size + 1 := by simp
  exact ⟨((h01.alloc _).trans h12 (fun _ _ h => h)).trans h23 (fun _ _ h => h) |>.weaken (fun _ _ h => h.elim), by omega, by omega, ⟨0, by simp, ho⟩, ⟨⟨none, 0, 0, rfl, rfl, fun j x hj => by simp [entsV] at hj, Nat.le_refl _⟩, fun e he => (by cases he)⟩, fun i hi => (by cases hi), fun e he => (by cases he)⟩

theorem orq_back {w0 w : World} {PB M x t bm bn k i : Nat} {uq : Bool} {n c a hh s : Int} {wv : Value} {W L : List En} {e : En} (h : OrQ w0 PB M x t bm bn uq n wv W (L.take i ++ e :: L.drop i) k w) (hm : MAt w (mtp M) c a hh s) (hi : i ≤ L.length) (hL : L.length ≤ 900) (hk : k ≤ 10000) :
    Calls Tryz.prog 22 #[.pointer (some ⟨x, 0, none⟩), .int .i64 i] w fun r w' => r = .returned (.tuple #[e.agg, .int .i64 0]) ∧ OrQ w0 PB M x t bm bn uq n wv W L (k + 1) w' ∧ MAt w' (mtp M) c a hh s := by
  have hlt : (L.take i).length = i := by rw [List.length_take]; omega
  have hl : i < (L.take i ++ e :: L.drop i).length := by rw [List.length_append, hlt, List.length_cons]; omega
  have hget : (L.take i ++ e :: L.drop i)[i] = e := by
    rw [List.getElem_append_right (by omega)]
    simp [hlt]
  have hback : (L.take i ++ e :: L.drop i).take i ++ (L.take i ++ e :: L.drop i).drop (i + 1) = L := by
    rw [List.take_append_of_le_length (by omega), List.take_take, Nat.min_self, List.drop_append, List.drop_of_length_le (by omega), hlt, show i + 1 - i = 1 by omega, List.drop_succ_cons, List.drop_zero, List.nil_append, List.take_append_drop]
  refine (orq_erase h hm hl (by rw [List.length_append, hlt, List.length_cons, List.length_drop]; omega) hk).mono ?_
  rintro r w' ⟨rfl, h1, h2⟩
  rw [hback] at h1
  exact ⟨by rw [hget], h1, h2⟩

set_option maxHeartbeats 32000000 in
theorem ordFails_any {w : World} {v : Value} {ls : List Int} {vv at_ : Int} (hg : Handle w) (hv : ReadU .i8 w v ls) (hls : ∀ b ∈ ls, -128 ≤ b ∧ b ≤ 127) (hvv : -128 ≤ vv ∧ vv ≤ 127) (hat : 0 ≤ at_ ∧ at_ ≤ 255) :
    Calls Tryz.prog 5 #[v, .int .i8 vv, .int .u8 at_] w fun e w' => e = .returned (.bool true) ∧ Same (fun _ => False) w w' := by
  have HK := Lib.hid (known_any hg)
  have hcap : ∃ ao cap, v = .slice ao ls.length cap := by
    obtain ⟨ao, cap, rfl, _⟩ := hv
    exact ⟨ao, cap, rfl⟩
  obtain ⟨ao, cap, rfl⟩ := hcap
  have HV := Lib.hid hv; have HLS := Lib.hid hls; have HG := Lib.hid hg
  clear hv hls hg
  by_cases h60 : (ls.length : Int) > 40
  · go_enter Tryz.func5, Tryz.ntmps5
    go_wp2_with fail
    refine HK.out.mono ?_
    rintro e w1 ⟨rfl, hs1⟩
    have HS1 := Lib.hid hs1
    clear hs1
    go_wp2_with fail
    go_ret
    exact ⟨rfl, HS1.out⟩
  · have h60' : ls.length ≤ 40 := by omega
    go_enter Tryz.func5, Tryz.ntmps5
    go_wp2_with fail
    refine HK.out.mono ?_
    rintro e w1 ⟨rfl, hs1⟩
    have HH := Lib.hid (hooks_any (mp := mtp w1.heap.size) (Or.inr ⟨_, rfl⟩) (w1.alloc (meterObj 0 0 0 0)))
    have HM1 := Lib.hid (heap_alloc_new w1 (meterObj 0 0 0 0))
    have HS1 := Lib.hid hs1
    clear hs1
    go_wp2_with fail
    refine HH.out.mono ?_
    rintro r w2 ⟨hv, rfl, hs2, hh⟩
    obtain ⟨ve, g, cap2, bm, bn, rfl, hcap, c0, gl, obm, obn⟩ := hooks_cmp hh (n := 0) (by omega)
    replace obn : One w2 bn (.int .i64 0) 3 := obn
    have hm2 : MAt w2 (mtp w1.heap.size) 0 0 0 0 := Or.inr ⟨_, rfl, hs2.obj HM1.out id⟩
    have HN := Lib.hid (new_calm (uq := false) obm obn hm2 ⟨by omega, by omega⟩ (Or.inr rfl))
    have HS2 := Lib.hid hs2
    have hfd : ∀ w : World, (Instr.field 31 (.agg #[ve, .slice (some ⟨g, 0, none⟩) 3 cap2]) 1).run Tryz.prog w = .ok (.slice (some ⟨g, 0, none⟩) 3 cap2) w := fun _ => by kernel_rfl
    clear hs2 hh obm obn hm2
    go_wp2_with fail
    refine HN.out.mono ?_
    rintro r w3 ⟨x, t, rfl, hO3, hm3, hs3⟩
    obtain ⟨M, hM⟩ : ∃ M, M = w1.heap.size := ⟨_, rfl⟩
    rw [← hM] at hO3 hm3
    have HI := Lib.hid (fails_new HS1.out hM HS2.out hs3 hO3); have HM3 := Lib.hid hm3
    generalize w2.heap.size = PB at *
    rw [← hM]
    clear hO3 hs3 c0 gl hm3 hM hfd hcap
    go_wp2_with fail
    go_loopg [9] ls.length (fun rr vi wr => ∃ (j : Nat) (L : List En), j + rr = ls.length ∧ vi = .int .i64 j ∧ L.length = j ∧ Sorted 0 L ∧ (∀ e ∈ L, 1 ≤ e.id ∧ e.id ≤ j) ∧ OrQ w PB M x t bm bn false 0 (.slice none 0 0) [] L j wr ∧ ∃ c, MAt wr (mtp M) c 0 0 0)
    case atStart => exact ⟨0, [], by omega, rfl, rfl, List.Pairwise.nil, fun e he => (by cases he), HI.out, 0, HM3.out⟩
    case round =>
      obtain ⟨j, L, hj, rfl, hlen, hS, hids, hI, c, hm⟩ := hrel
      by_cases hlast : j < ls.length
      · have hl' : (j : Int) < (ls.length : Int) := by omega
        have hj60 : j < 40 := by omega
        obtain ⟨ab, ao2, rfl, hla, hxx⟩ := (HV.out.ups3 hI.same).byte hlast
        have ha := HLS.out ls[j] (List.getElem_mem _)
        generalize ls[j] = a at *
        have hwa : IntKind.i64.wrap a = a := by rw [IntKind.wrap_i64]; omega
        have HS0 := Lib.hid hS; have HII := Lib.hid hI; have HJ := Lib.hid hj; have HIDS := Lib.hid hids; have HM := Lib.hid hm; have HLEN := Lib.hid hlen
        have HV1 := Lib.hid (num_any (w := wr) (m := a) (by omega) (by omega))
        clear hS hI hj hids hm hlen
        go_wp2_with fail
        refine HV1.out.mono ?_
        rintro r w5 ⟨v1, rfl, ho5, hk5, hs5⟩
        have hK5 := hk5 _ _ _ _ _ HM.out
        have HINS := Lib.hid (orq_insert (rid := (j : Int) + 1) (HII.out.quiet hs5) (HM.out.same hs5 (fun _ _ => id)) ⟨by omega, by omega⟩ HG.out hK5 HS0.out (by rw [HLEN.out]; omega) (by omega) (fun y hy => by have := HIDS.out y hy; omega))
        obtain ⟨v1o, v1c, rfl⟩ := readV_len hK5.rd
        clear ho5 hk5 hs5 hxx hla hK5
        go_wp2_with fail
        refine HINS.out.mono ?_
        rintro r w6 (⟨i, e, c', hi, hid, hkv, rfl, hI', hS', hm'⟩ | ⟨p, c', rfl, hI', hm', hne⟩)
        · have HI' := Lib.hid hI'; have HS' := Lib.hid hS'; have HM' := Lib.hid hm'; have HID := Lib.hid hid; have HIL := Lib.hid hi
          clear hI' hS' hm' hid hkv hi
          go_wp2_with fail
          go_roundg (ls.length - (j + 1))
          case measure => have := HJ.out; omega
          case rel => exact ⟨j + 1, _, by have := HJ.out; omega, by go_num, by have := HIL.out; have := HLEN.out; rw [List.length_append, List.length_cons, List.length_take, List.length_drop]; omega, HS'.out, fun y hy => (by
            rcases List.mem_append.1 hy with h | h
            · have := HIDS.out y (List.mem_of_mem_take h); omega
            · rcases List.mem_cons.1 h with h | h
              · subst h; have := HID.out; omega
              · have := HIDS.out y (List.mem_of_mem_drop h); omega), HI'.out, _, HM'.out⟩
        · exact absurd rfl hne
      · have hl' : ¬ (j : Int) < (ls.length : Int) := by omega
        obtain rfl : ls.length = j := by omega
        have HS0 := Lib.hid hS; have HI0 := Lib.hid hI; have HIDS := Lib.hid hids; have HM := Lib.hid hm; have HLEN := Lib.hid hlen
        have HALL := Lib.hid (orq_all hI (by omega))
        obtain ⟨c5, _, ho⟩ := hI.ox
        have HKV := Lib.hid (fun (e : En) (he : e ∈ L) => And.intro (ho.keys e he).ok (ho.keys e he).few)
        clear hS hI hj hlast hids hm hlen ho
        go_wp2_with fail
        refine HALL.out.mono ?_
        rintro r w7 ⟨wv, W, rfl, hkvs, how, hwk, hs7⟩
        have hm7 : MAt w7 (mtp M) c 0 0 0 := HM.out.same hs7 (fun _ _ => id)
        have hq7 := HI0.out.told how hwk hs7
        obtain ⟨A, hA, hA1⟩ : ∃ A : Nat, (A : Int) = at_ % 12 + 1 ∧ 1 ≤ A ∧ A ≤ 12 := ⟨(at_ % 12 + 1).toNat, by omega, by omega, by omega⟩
        have hat2 : at_.tmod 12 = (A : Int) - 1 := by rw [IntWalk.rem_in _ _ hat.1]; omega
        have HSET := Lib.hid (orq_set (m := (A : Int)) (how := 1) hq7 hm7 (by omega))
        have hml := (mat_cells hm7).2.2
        obtain ⟨wo, wcp, rfl, _⟩ := ReadE.shape (ownsRow_readZ how)
        have HKVS := Lib.hid hkvs
        clear hkvs how hwk hs7 hm7 hq7 hA
        go_wp2_with fail
        refine HSET.out.mono ?_
        rintro r w8 ⟨rfl, hq8, hm8⟩
        have hbz : bits .and .i64 1 1023 = 1 := by decide
        rw [hbz] at hm8
        have hvw : IntKind.i64.wrap vv = vv := by rw [IntKind.wrap_i64]; omega
        have HV1 := Lib.hid (num_any (w := w8) (m := vv) (by omega) (by omega))
        have HQ8 := Lib.hid hq8; have HM8 := Lib.hid hm8
        clear hq8 hm8 hbz hat2
        go_wp2_with fail
        refine HV1.out.mono ?_
        rintro r w9 ⟨v1, rfl, ho9, hk9, hs9⟩
        have hK9 := hk9 _ _ _ _ _ HM8.out
        have HINS := Lib.hid (orq_insert (rid := 99) (HQ8.out.quiet hs9) (HM8.out.same hs9 (fun _ _ => id)) ⟨by omega, by omega⟩ HG.out hK9 HS0.out (by have := HLEN.out; omega) (by omega) (fun y hy => by have := HIDS.out y hy; omega))
        obtain ⟨v1o, v1c, rfl⟩ := readV_len hK9.rd
        clear ho9 hk9 hs9 hK9
        go_wp2_with fail
        refine HINS.out.mono ?_
        rintro r w10 (⟨i, e, c', hi, hid, hkv, rfl, hI', hS', hm'⟩ | ⟨p, c', rfl, hI', hm', hne⟩)
        · obtain ⟨mc3, _, hml2⟩ := mat_cells hm'
          have hlen2 := orq_len hI'
          have hl1 : (((L.take i ++ e :: L.drop i).length : Nat) : Int) = (ls.length : Int) + 1 := by
            have := HLEN.out
            rw [List.length_append, List.length_cons, List.length_take, List.length_drop]
            omega
          rw [hl1] at hlen2
          have HLEN2 := Lib.hid hlen2; have HSM := Lib.hid hI'.same
          clear hI' hS' hm' hid hkv hi hlen2 hl1
          go_wp2_with fail
          refine HLEN2.out.mono ?_
          rintro r w11 ⟨rfl, hs11⟩
          have HS11 := Lib.hid hs11
          clear hs11
          go_wp2_with fail
          go_ret
          exact ⟨rfl, (HSM.out.trans HS11.out (fun _ _ h => h.elim)).weaken (fun i hi h => by omega)⟩
        · have h01 : IntKind.i64.wrap (0 + 1) = 1 := by decide
          rw [h01] at hm'
          obtain ⟨mc3, _, hml2⟩ := mat_cells hm'
          have HALL2 := Lib.hid (orq_all hI' (by have := HLEN.out; omega))
          have HI' := Lib.hid hI'; have HM' := Lib.hid hm'
          clear hI' hm' hne h01
          go_wp2_with fail
          refine HALL2.out.mono ?_
          rintro r w11 ⟨v2, W2, rfl, hkvs2, how2, hwk2, hs11⟩
          have hq11 := HI'.out.quiet hs11
          have HENT := Lib.hid (entries_same ⟨ownsRow_readZ how2, fun e he => (hwk2 e he).1⟩ hq11.was (fun e he => by
            obtain ⟨y, hy, _, hyk⟩ := kvs_mem hkvs2 he
            rw [← hyk]
            exact HKV.out y hy) (hkvs2.trans HKVS.out.symm) (by have := kvs_length hkvs2; have := HLEN.out; omega))
          obtain ⟨o2, c2, rfl, _⟩ := ReadE.shape (ownsRow_readZ how2)
          have HQ11 := Lib.hid hq11; have HM11 := Lib.hid (HM'.out.same hs11 (fun _ _ => id))
          clear hkvs2 how2 hwk2 hs11 hq11 mc3
          go_wp2_with fail
          refine HENT.out.mono ?_
          rintro r w12 ⟨rfl, hs12⟩
          have HSET2 := Lib.hid (orq_set (m := 0) (how := 0) (HQ11.out.quiet hs12) (HM11.out.same hs12 (fun _ _ => id)) (Int.le_refl _))
          have hml3 : M < w12.heap.size := Nat.lt_of_lt_of_le (mat_cells HM11.out).2.2 hs12.size
          clear hs12
          go_wp2_with fail
          refine HSET2.out.mono ?_
          rintro r w13 ⟨rfl, hq13, hm13⟩
          have HV2 := Lib.hid (num_any (w := w13) (m := vv) (by omega) (by omega))
          have HQ13 := Lib.hid hq13; have HM13 := Lib.hid hm13
          clear hq13 hm13
          go_wp2_with fail
          refine HV2.out.mono ?_
          rintro r w14 ⟨v3, rfl, ho14, hk14, hs14⟩
          have hK14 := hk14 _ _ _ _ _ HM13.out
          have HINS2 := Lib.hid (orq_insert (rid := 99) (HQ13.out.quiet hs14) (HM13.out.same hs14 (fun _ _ => id)) ⟨by omega, by omega⟩ HG.out hK14 HS0.out (by have := HLEN.out; omega) (by omega) (fun y hy => by have := HIDS.out y hy; omega))
          obtain ⟨v3o, v3c, rfl⟩ := readV_len hK14.rd
          clear ho14 hk14 hs14 hK14
          go_wp2_with fail
          refine HINS2.out.mono ?_
          rintro r w15 (⟨i, e, c', hi, hid, hkv, rfl, hI5, hS5, hm5⟩ | ⟨p, c', rfl, hI5, hm5, hne⟩)
          · have HBK := Lib.hid (orq_back hI5 hm5 hi (by have := HLEN.out; omega) (by omega))
            obtain ⟨eo, en, ec, ei, ek⟩ := e
            obtain rfl : ei = 99 := hid
            clear hI5 hS5 hm5 hi hkv
            go_wp2_with fail
            refine HBK.out.mono ?_
            rintro r w16 ⟨rfl, hq16, hm16⟩
            have hq17 := hq16.quiet ((Same.refl (fun _ => False) w16).alloc (entObj (⟨eo, en, ec, 99, ek⟩ : En)))
            obtain ⟨q0, q1, _, _⟩ := ent_cells (heap_alloc_new w16 (entObj (⟨eo, en, ec, 99, ek⟩ : En)))
            have hql := lt_of_block (heap_alloc_new w16 (entObj (⟨eo, en, ec, 99, ek⟩ : En)))
            have HALL3 := Lib.hid (orq_all hq17 (by have := HLEN.out; omega))
            have HQ17 := Lib.hid hq17
            clear hq16 hm16 hq17
            go_wp2_with fail
            refine HALL3.out.mono ?_
            rintro r w18 ⟨v4, W4, rfl, hkvs4, how4, hwk4, hs18⟩
            have hq18 := HQ17.out.quiet hs18
            have HENT4 := Lib.hid (entries_same ⟨ownsRow_readZ how4, fun e he => (hwk4 e he).1⟩ hq18.was (fun e he => by
              obtain ⟨y, hy, _, hyk⟩ := kvs_mem hkvs4 he
              rw [← hyk]
              exact HKV.out y hy) (hkvs4.trans HKVS.out.symm) (by have := kvs_length hkvs4; have := HLEN.out; omega))
            obtain ⟨o4, c4, rfl, _⟩ := ReadE.shape (ownsRow_readZ how4)
            have HSM := Lib.hid hq18.same
            clear hkvs4 how4 hwk4 hs18 hq18 q0 q1 hql
            go_wp2_with fail
            refine HENT4.out.mono ?_
            rintro r w19 ⟨rfl, hs19⟩
            have HS19 := Lib.hid hs19
            clear hs19
            go_wp2_with fail
            go_ret
            exact ⟨rfl, (HSM.out.trans HS19.out (fun _ _ h => h.elim)).weaken (fun i hi h => by omega)⟩
          · exact absurd rfl hne

end Go.Proofs.YtgfmemggfbgjeaaGreatDoor
