/-
  OrdPlaces: the walk: it answers true and turns nothing that was there. Condition: the variable that errors.As reads holds the type of error.
-/
import Derived.Test.YtgfmemggfbgjeaaGreatDoorM54
import Derived.Test.YtgfmemggfbgjeaaGreatDoorM44
import Derived.Test.YtgfmemggfbgjeaaGreatDoorM45
import Derived.Test.YtgfmemggfbgjeaaGreatDoorM38
import Derived.BigQuiet
import Derived.Deep.CutRange
import Derived.Deep.AppendLies
namespace Go.Proofs.YtgfmemggfbgjeaaGreatDoor
open Go.RowKit Go.Extern.Stop Go.Stop Go.Extern Go.Lib
set_option maxRecDepth 1000000

theorem ReadU.ups2 {kd : IntKind} {w w' : World} {v : Value} {l : List Int} (h : ReadU kd w v l) (hs : Same (fun i => w.heap.size ≤ i) w w') : ReadU kd w' v l := by
  obtain ⟨ao, cap, rfl, hc⟩ := h
  refine ⟨ao, cap, rfl, fun j x hj => ?_⟩
  obtain ⟨b, off, rfl, hb, e0⟩ := hc j x hj
  exact ⟨b, off, rfl, Nat.lt_of_lt_of_le hb hs.size, (World.cell?_of_block (a := ⟨b, _, none⟩) (hs.block b hb (by omega))).trans e0⟩

theorem places_new {w w1 w2 w3 : World} {x t bm bn M : Nat} (h01 : Same (fun _ => False) w w1) (hM : M = w1.heap.size) (h12 : Same (fun _ => False) (w1.alloc (meterObj 0 0 0 0)) w2) (h23 : Same (fun _ => False) w2 w3) (ho : OxAt w3 (fun k => w2.heap.size ≤ k) x t bm bn false (mtp M) 2 0 [] 0) (hm : MAt w3 (mtp M) 0 0 0 0) : OrI w w2.heap.size M x t bm bn false 2 0 0 [] 0 w3 := by
  have e1 := h01.size; have e2 := h12.size; have e3 := h23.size
  have e4 : (w1.alloc (meterObj 0 0 0 0)).heap.size = w1.heap.size + 1 := by simp
  exact ⟨((h01.alloc _).trans h12 (fun _ _ h => h)).trans h23 (fun _ _ h => h) |>.weaken (fun _ _ h => h.elim), by omega, by omega, ⟨0, by simp, ho⟩, 0, hm⟩

/-- The rows of what was taken out. -/
structure Gone (w : World) (N t M : Nat) (va vg : Value) (H : List (Nat × En)) : Prop where
  at_ : w.ownsRow N 3 1 va H.length (H.reverse.map (fun p => .int .i64 (p.1 : Int)))
  en : w.ownsRow N 57 2 vg H.length (entsV (H.reverse.map (fun p => p.2)))
  keys : ∀ p ∈ H, KeyOk w (mtp M) p.2.key p.2.kv ∧ ∀ i, p.2.key.ownBlock = some i → i < N ∧ i ≠ t

abbrev Aof (va vg : Value) (i : Nat) : Prop := va.ownBlock = some i ∨ vg.ownBlock = some i

theorem aof_nil : Aof (.slice none 0 0) (.slice none 0 0) = fun _ => False := by
  funext i
  simp [Aof, Value.ownBlock]

theorem Gone.kept {w w' : World} {N t M : Nat} {va vg : Value} {H : List (Nat × En)} (h : Gone w N t M va vg H) (hs : Same (fun q => q = t) w w') (ht : t < N) : Gone w' N t M va vg H :=
  ⟨hs.row h.at_ (fun k hk e => by have := (h.at_.lt k hk).1; omega), hs.row h.en (fun k hk e => by have := (h.en.lt k hk).1; omega), fun p hp => ⟨(h.keys p hp).1.kept hs (fun k hk e => ((h.keys p hp).2 k hk).2 e), (h.keys p hp).2⟩⟩

theorem Gone.quiet {w w' : World} {N t M : Nat} {va vg : Value} {H : List (Nat × En)} (h : Gone w N t M va vg H) (hs : Same (fun _ => False) w w') : Gone w' N t M va vg H :=
  ⟨hs.row h.at_ (fun k hk e => e), hs.row h.en (fun k hk e => e), fun p hp => ⟨(h.keys p hp).1.kept hs (fun k hk e => e), (h.keys p hp).2⟩⟩

set_option maxHeartbeats 32000000 in
theorem ordPlaces_any {w : World} {v u : Value} {ls bs : List Int} (hg : Handle w) (hv : ReadU .i8 w v ls) (hls : ∀ b ∈ ls, -128 ≤ b ∧ b ≤ 127) (hu : ReadU .u8 w u bs) (hbs : ∀ b ∈ bs, 0 ≤ b ∧ b ≤ 255) :
    Calls Tryz.prog 6 #[v, u] w fun e w' => e = .returned (.bool true) ∧ Same (fun _ => False) w w' := by
  have HK := Lib.hid (known_any hg)
  have hcap : ∃ ao cap, v = .slice ao ls.length cap := by
    obtain ⟨ao, cap, rfl, _⟩ := hv
    exact ⟨ao, cap, rfl⟩
  obtain ⟨ao, cap, rfl⟩ := hcap
  have hcap : ∃ ao cap, u = .slice ao bs.length cap := by
    obtain ⟨ao, cap, rfl, _⟩ := hu
    exact ⟨ao, cap, rfl⟩
  obtain ⟨uo, uc, rfl⟩ := hcap
  have HV := Lib.hid hv; have HLS := Lib.hid hls; have HU := Lib.hid hu; have HBS := Lib.hid hbs
  clear hv hls hu hbs hg
  by_cases h60 : (ls.length : Int) > 40
  · go_enter Tryz.func6, Tryz.ntmps6
    go_wp2_with fail
    refine HK.out.mono ?_
    rintro e w1 ⟨rfl, hs1⟩
    have HS1 := Lib.hid hs1
    clear hs1
    go_wp2_with fail
    go_ret
    exact ⟨rfl, HS1.out⟩
  · by_cases h61 : (bs.length : Int) > 40
    · go_enter Tryz.func6, Tryz.ntmps6
      go_wp2_with fail
      refine HK.out.mono ?_
      rintro e w1 ⟨rfl, hs1⟩
      have HS1 := Lib.hid hs1
      clear hs1
      go_wp2_with fail
      go_ret
      exact ⟨rfl, HS1.out⟩
    · have h60' : ls.length ≤ 40 := by omega
      have h61' : bs.length ≤ 40 := by omega
      go_enter Tryz.func6, Tryz.ntmps6
      go_wp2_with fail
      refine HK.out.mono ?_
      rintro e w1 ⟨rfl, hs1⟩
      have HH := Lib.hid (hooks_any (mp := mtp w1.heap.size) (Or.inr ⟨_, rfl⟩) (w1.alloc (meterObj 0 0 0 0)))
      have HM1 := Lib.hid (heap_alloc_new w1 (meterObj 0 0 0 0))
      have HS1 := Lib.hid hs1
      clear hs1
      go_wp2_with fail
      refine HH.out.mono ?_
      rintro r w2 ⟨hv, rfl, hs2, hh⟩
      obtain ⟨ve, g, cap2, bm, bn, rfl, hcap, c0, gl, obm, obn⟩ := hooks_cmp hh (n := 2) (by omega)
      replace obn : One w2 bn (.int .i64 2) 3 := obn
      have hm2 : MAt w2 (mtp w1.heap.size) 0 0 0 0 := Or.inr ⟨_, rfl, hs2.obj HM1.out id⟩
      have HN := Lib.hid (new_calm (uq := false) obm obn hm2 ⟨by omega, by omega⟩ (Or.inr rfl))
      have HS2 := Lib.hid hs2
      have hfd : ∀ w : World, (Instr.field 31 (.agg #[ve, .slice (some ⟨g, 0, none⟩) 3 cap2]) 1).run Tryz.prog w = .ok (.slice (some ⟨g, 0, none⟩) 3 cap2) w := fun _ => by kernel_rfl
      clear hs2 hh obm obn hm2
      go_wp2_with fail
      refine HN.out.mono ?_
      rintro r w3 ⟨x, t, rfl, hO3, hm3, hs3⟩
      obtain ⟨M, hM⟩ : ∃ M, M = w1.heap.size := ⟨_, rfl⟩
      rw [← hM] at hO3 hm3
      have HI := Lib.hid (places_new HS1.out hM HS2.out hs3 hO3 hm3)
      generalize w2.heap.size = PB at *
      rw [← hM]
      clear hO3 hs3 c0 gl hm3 hM hfd hcap
      go_wp2_with fail
      go_loopg [7] ls.length (fun rr vi wr => ∃ (j : Nat) (L : List En), j + rr = ls.length ∧ vi = .int .i64 j ∧ Nums (ls.take j) L ∧ OrI w PB M x t bm bn false 2 0 0 L j wr)
      case atStart => exact ⟨0, [], by omega, rfl, Nums.nil, HI.out⟩
      case round =>
        obtain ⟨j, L, hj, rfl, hN, hI⟩ := hrel
        by_cases hlast : j < ls.length
        · have hl' : (j : Int) < (ls.length : Int) := by omega
          have hj60 : j < 40 := by omega
          obtain ⟨ab, ao2, rfl, hla, hxx⟩ := (HV.out.ups2 hI.same).byte hlast
          have ha := HLS.out ls[j] (List.getElem_mem _)
          obtain ⟨a, hae⟩ : ∃ a, a = ls[j] := ⟨_, rfl⟩
          rw [← hae] at hxx ha
          have hwa : IntKind.i64.wrap a = a := by rw [IntKind.wrap_i64]; omega
          have HAE := Lib.hid hae; have HNN := Lib.hid hN; have HII := Lib.hid hI; have HJ := Lib.hid hj
          have HV1 := Lib.hid (num_any (w := wr) (m := a) (by omega) (by omega))
          clear hN hI hae hj
          go_wp2_with fail
          refine HV1.out.mono ?_
          rintro r w5 ⟨v1, rfl, ho5, hk5, hs5⟩
          obtain ⟨cc, hmm⟩ := HII.out.mm
          have HINS := Lib.hid (nums_insert (rid := (j : Int) + 1) (HII.out.kept hs5) HNN.out (hk5 _ _ _ _ _ hmm) (by rw [List.length_take]; omega) (by rw [List.length_take]; omega) (by omega))
          obtain ⟨v1o, v1c, rfl⟩ := readV_len (hk5 _ _ _ _ _ hmm).rd
          clear ho5 hk5 hs5 hmm hxx hla
          go_wp2_with fail
          refine HINS.out.mono ?_
          rintro r w6 ⟨rfl, L', hN', hI'⟩
          generalize ((List.take j ls).countP (fun b => decide (b ≤ a))) = pl
          have HN' := Lib.hid hN'; have HI' := Lib.hid hI'
          clear hN' hI'
          go_wp2_with fail
          go_roundg (ls.length - (j + 1))
          case measure => have := HJ.out; omega
          case rel => exact ⟨j + 1, L', by have := HJ.out; omega, by go_num, by rw [List.take_succ_eq_append_getElem hlast, ← HAE.out]; exact HN'.out, HI'.out⟩
        · have hl' : ¬ (j : Int) < (ls.length : Int) := by omega
          obtain rfl : ls.length = j := by omega
          rw [List.take_length] at hN
          have hLL := hN.length
          have HN0 := Lib.hid hN; have HI0 := Lib.hid hI
          obtain ⟨c, hc, ho⟩ := hI.ox
          obtain ⟨cc, hmm⟩ := hI.mm
          have HALL := Lib.hid (iall_any ho hmm (by omega))
          have HKV := Lib.hid (fun (e : En) (he : e ∈ L) => (show (∀ z ∈ e.kv, z.ok) ∧ e.kv.length ≤ 1000 ∧ ∀ i, e.key.ownBlock = some i → i < wr.heap.size from ⟨(ho.keys e he).ok, (ho.keys e he).few, fun i hi => readV_lt (ho.keys e he).rd (by rw [hN.num e he]; simp) hi⟩))
          have HMM := Lib.hid hmm
          clear hN hI hj hlast ho hmm hc
          go_wp2_with fail
          refine HALL.out.mono ?_
          rintro r w7 ⟨wv, W, rfl, hkvs, how, hwk, hs7⟩
          obtain ⟨m', hm1, hm2⟩ : ∃ m', mtp M = .pointer (some ⟨m', 0, none⟩) ∧ w7.heap[m']? = some (meterObj cc 0 0 0) := by
            rcases HMM.out with h | ⟨m', h1, h2⟩
            · cases h
            · exact ⟨m', h1, hs7.obj h2 id⟩
          obtain rfl : M = m' := by simpa using hm1
          have HSET := Lib.hid (mset_any hm2 0 0 (Int.le_refl _))
          have hml := lt_of_block hm2
          have HKVS := Lib.hid hkvs; have HOW := Lib.hid how; have HWK := Lib.hid hwk; have HS7 := Lib.hid hs7
          clear hkvs how hwk hs7 hm1 hm2
          go_wp2_with fail
          refine HSET.out.mono ?_
          rintro r w8 ⟨rfl, hs8, hm8⟩
          have hbz : bits .and .i64 0 1023 = 0 := by decide
          rw [hbz] at hm8
          have HP := Lib.hid (orp_start HI0.out HOW.out HWK.out HS7.out hs8 hm8)
          obtain ⟨wo, wcp, rfl, _⟩ := ReadE.shape (ownsRow_readZ HOW.out)
          have HU0 := Lib.hid (Lib.hid (show L.length ≤ 40 by omega))
          have HKN := Lib.hid (fun (e : En) (he : e ∈ L) (i : Nat) (hi : e.key.ownBlock = some i) => (show i < w8.heap.size from by have e1 := (HKV.out e he).2.2 i hi; have e2 := HS7.out.size; have e3 := hs8.size; omega))
          have hGO : Gone w8 w8.heap.size t M (.slice none 0 0) (.slice none 0 0) [] := ⟨World.ownsRow_nil _ _ _ _, World.ownsRow_nil _ _ _ _, fun p hp => by cases hp⟩
          have HGO := Lib.hid hGO
          have HP2 := Lib.hid (show OrP w PB M x t bm bn w8.heap.size (Aof (.slice none 0 0) (.slice none 0 0)) (.slice wo W.length wcp) W L ls.length w8 from by rw [aof_nil]; exact HP.out)
          generalize w8.heap.size = N at *
          clear hs8 hm8 hGO hbz
          go_wp2_with fail
          go_loopg [11, 12, 13] bs.length (fun rr v11 v12 v13 wr => ∃ (i : Nat) (L2 : List En) (H : List (Nat × En)), i + rr = bs.length ∧ v13 = .int .i64 i ∧ Undo (kvs L) (hk H) (kvs L2) ∧ (L2.map (fun e => e.id)).Nodup ∧ (∀ e ∈ L2, ∀ q, e.key.ownBlock = some q → q < N) ∧ L2.length + H.length = L.length ∧ H.length ≤ i ∧ Gone wr N t M v11 v12 H ∧ OrP w PB M x t bm bn N (Aof v11 v12) (.slice wo W.length wcp) W L2 (ls.length + H.length) wr)
          case atStart => exact ⟨0, L, [], by omega, rfl, rfl, HN0.out.nodup, HKN.out, rfl, Nat.le_refl _, HGO.out, HP2.out⟩
          case round =>
            obtain ⟨i, L2, H, hi, rfl, hun, hnd, hkn, hlen, hHi, hgo, hop⟩ := hrel
            have HLEN := Lib.hid (orp_len hop)
            have HUN := Lib.hid hun; have HND := Lib.hid hnd; have HKN2 := Lib.hid hkn; have HLE := Lib.hid hlen; have HGO2 := Lib.hid hgo; have HOP := Lib.hid hop; have HI2 := Lib.hid hi; have HHI := Lib.hid hHi
            have hl2 : L2.length ≤ 40 := by omega
            have hh2 : H.length ≤ 40 := by omega
            clear hun hnd hkn hlen hgo hop hi hHi
            go_upto_region 18 with fail
            go_cut [73] from 65 to 107 (fun s73 wx => s73 = .bool (decide (i < bs.length ∧ 0 < L2.length)) ∧ Same (fun _ => False) wr wx)
            case first =>
              by_cases hlt : (i : Int) < bs.length
              · go_wp2_with fail
                refine HLEN.out.mono ?_
                rintro r w9 ⟨rfl, hs9⟩
                have HS9 := Lib.hid hs9
                clear hs9
                by_cases hpos : (L2.length : Int) > 0
                · go_wp2_with fail
                  go_meet
                  exact ⟨by first | rfl | (simp; omega), HS9.out⟩
                · go_wp2_with fail
                  go_meet
                  exact ⟨by first | rfl | (simp; omega), HS9.out⟩
              · go_wp2_with fail
                go_meet
                exact ⟨by rw [decide_eq_false (show ¬ (i < bs.length ∧ 0 < L2.length) by omega)], Same.refl _ _⟩
            case rest =>
              obtain ⟨rfl, hsc⟩ := hcut
              have HSC := Lib.hid hsc
              by_cases hcc : i < bs.length ∧ 0 < L2.length
              · rw [decide_eq_true hcc]
                have hop2 := HOP.out.quiet hsc
                obtain ⟨ab, ao2, rfl, hla, hxx⟩ := (HU.out.ups2 hop2.same).byte hcc.1
                have hb := HBS.out bs[i] (List.getElem_mem _)
                generalize bs[i] = b at *
                have hdr : Same (fun _ => False) wc wc.drew := (Same.refl (fun _ => False) wc).drew
                have HLEN2 := Lib.hid (orp_len (hop2.quiet hdr))
                have HCE := Lib.hid (fun (W2 : World) (hs : Same (fun _ => False) wc W2) => And.intro ((World.cell?_of_block (a := ⟨ab, ao2 + i, none⟩) (hs.block ab hla id)).trans hxx) (Nat.lt_of_lt_of_le hla hs.size))
                have HDR := Lib.hid hdr
                have hcc2 := hcc.2
                have HLI := Lib.hid hcc.1
                have hi40 : i < 40 := by omega
                have hli : (i : Int) < (bs.length : Int) := by omega
                have hwb : IntKind.i64.wrap b = b := by rw [IntKind.wrap_i64]; omega
                clear hsc hop2 hdr hcc
                go_upto_region 20 with fail
                go_cut [14] from 65 to 107 (fun s14 wx => ∃ p : Nat, p < L2.length ∧ s14 = .int .i64 p ∧ Same (fun _ => False) wr wx)
                case first =>
                  have hne2 : ¬ (L2 = []) := fun h => by rw [h] at hcc2; cases hcc2
                  go_region_with (first
                    | (go_at_call 15; refine HLEN2.out.mono ?_; rintro r w9 ⟨rfl, hs9⟩; have HS9 := Lib.hid ((HSC.out.trans HDR.out (fun _ _ h => h)).trans hs9 (fun _ _ h => h)); obtain ⟨q0, ql⟩ := HCE.out w9 (HDR.out.trans hs9 (fun _ _ h => h)); clear hs9))
                  all_goals go_wp2_with fail
                  all_goals go_meet
                  all_goals exact ⟨b.toNat % L2.length, Nat.mod_lt _ hcc2, by rw [IntWalk.up_tmod (Int.toNat_of_nonneg hb.1).symm rfl], HS9.out⟩
                case rest =>
                  obtain ⟨p, hp, rfl, hsc3⟩ := hcut
                  have hop3 := HOP.out.quiet hsc3
                  have HER := Lib.hid (orp_erase hop3 hp (by omega) (by omega))
                  obtain ⟨c3, _, ho3⟩ := hop3.ox
                  have HKY := Lib.hid (And.intro (ho3.keys L2[p] (List.getElem_mem hp)) (fun q (hq : L2[p].key.ownBlock = some q) => (show q < N ∧ q ≠ t from ⟨HKN2.out _ (List.getElem_mem hp) q hq, fun e => ho3.kt _ (List.getElem_mem hp) (by rw [hq, e])⟩)))
                  have HUN3 := Lib.hid (undo_erase HUN.out hp)
                  have HNO3 := Lib.hid (gone_not HND.out hp)
                  have HGO3 := Lib.hid (HGO2.out.quiet hsc3)
                  have HL3 := Lib.hid (show (L2.take p ++ L2.drop (p + 1)).length + (H.length + 1) = L.length from by have := HLE.out; rw [List.length_append, List.length_take, List.length_drop]; omega)
                  have HKN3 := Lib.hid (fun (e : En) (he : e ∈ L2.take p ++ L2.drop (p + 1)) => HKN2.out e ((List.mem_append.1 he).elim List.mem_of_mem_take List.mem_of_mem_drop))
                  have HTN := Lib.hid hop3.tn
                  generalize L2.take p ++ L2.drop (p + 1) = L3 at *
                  generalize L2[p] = y at *
                  obtain ⟨yo, yn, yc, yi, yk⟩ := y
                  clear hsc3 hop3 ho3 hxx hla hb hwb hli hcc2
                  go_wp2_with fail
                  refine HER.out.mono ?_
                  rintro r w5 ⟨rfl, hop5, hs5⟩
                  obtain ⟨w6, hw6⟩ : ∃ w6, w6 = w5.alloc (entObj (⟨yo, yn, yc, yi, yk⟩ : En)) := ⟨_, rfl⟩
                  have hs6 : Same (fun _ => False) w5 w6 := by rw [hw6]; exact (Same.refl _ w5).alloc _
                  have hyb : w6.heap[w5.heap.size]? = some (entObj (⟨yo, yn, yc, yi, yk⟩ : En)) := by rw [hw6]; exact heap_alloc_new _ _
                  obtain ⟨y0, y1, _, _⟩ := ent_cells hyb
                  have hyl := lt_of_block hyb
                  have HW6 := Lib.hid hw6; have HYB := Lib.hid hyb
                  have HOP6 := Lib.hid (hop5.quiet hs6)
                  have HGO6 := Lib.hid ((HGO3.out.kept hs5 HTN.out.2.1).quiet hs6)
                  have HKY6 := Lib.hid ((HKY.out.1.kept hs5 (fun q hq e => (HKY.out.2 q hq).2 e)).kept hs6 (fun _ _ => id))
                  have HKYN := Lib.hid HKY.out.2
                  have HNA5 := Lib.hid (fun q (hq : Aof u11 u12 q) => (hop5.nA q hq).2)
                  clear hop5 hs5 hw6 hs6 hyb
                  go_upto_region 22 with fail
                  rw [← HW6.out]
                  go_upto_region 24 with fail
                  go_cut [11, 12] from 65 to 107 (fun s11 s12 wx => wx.ownsRow N 3 1 s11 (H.length + 1) (H.reverse.map (fun p => Value.int .i64 (p.1 : Int)) ++ [.int .i64 (p : Int)]) ∧ wx.ownsRow N 57 2 s12 (H.length + 1) (entsV (H.reverse.map (fun p => p.2)) ++ [.slice yo yn yc, .int .i64 yi]) ∧ Same (Aof u11 u12) w6 wx ∧ (∀ q, s11.ownBlock = some q → N ≤ q ∧ q < wx.heap.size ∧ (u11.ownBlock = some q ∨ w6.heap.size ≤ q)) ∧ (∀ q, s12.ownBlock = some q → N ≤ q ∧ q < wx.heap.size ∧ (u12.ownBlock = some q ∨ w6.heap.size ≤ q)))
                  case first =>
                    have hNw := HOP6.out.wN
                    have hd6 : Same (fun _ => False) w6 w6.drew := (Same.refl (fun _ => False) w6).drew
                    obtain ⟨oA, hoA⟩ : ∃ o : Obj, o = .cells #[.int .i64 (p : Int)] 3 := ⟨_, rfl⟩
                    obtain ⟨oB, hoB⟩ : ∃ o : Obj, o = .cells #[.slice yo yn yc, .int .i64 yi] 57 := ⟨_, rfl⟩
                    have S1 := Lib.hid (hd6.alloc oA)
                    have S2 := Lib.hid ((hd6.alloc oA).alloc oB)
                    have S3 := Lib.hid ((hd6.alloc oB).alloc oA)
                    have A1 := Lib.hid (show (w6.drew.alloc oA).heap[w6.heap.size]? = some oA from heap_alloc_new _ _)
                    have A2 := Lib.hid (((Same.refl (fun _ => False) (w6.drew.alloc oA)).alloc oB).obj A1.out id)
                    have B2 := Lib.hid (show ((w6.drew.alloc oA).alloc oB).heap[w6.heap.size + 1]? = some oB from by have h := heap_alloc_new (w6.drew.alloc oA) oB; simpa using h)
                    have A3 := Lib.hid (show ((w6.drew.alloc oB).alloc oA).heap[w6.heap.size + 1]? = some oA from by have h := heap_alloc_new (w6.drew.alloc oB) oA; simpa using h)
                    have B3 := Lib.hid (((Same.refl (fun _ => False) (w6.drew.alloc oB)).alloc oA).obj (show (w6.drew.alloc oB).heap[w6.heap.size]? = some oB from heap_alloc_new _ _) id)
                    have HOA := Lib.hid hoA; have HOB := Lib.hid hoB
                    have HGA := Lib.hid HGO6.out.at_; have HGE := Lib.hid HGO6.out.en
                    subst hoA; subst hoB
                    clear hd6
                    go_region_law (first
                      | (refine step_at (w6.drew.alloc (.cells #[.int .i64 (p : Int)] 3)) rfl (.tmp 92) (.tmp 94) rfl N H.length (w6.heap.size) u11 _ (p : Int) (by simp [Act.eval, Act.put]) (S1.out.row HGA.out (fun _ _ h => h)) (by simp [Act.eval, Act.put]) A1.out (by omega) (by have := S1.out.size; omega) ?_; intro g1 c1 wA o1 s1 t1; have O1 := Lib.hid o1; have T1 := Lib.hid t1; have SA := Lib.hid s1; have SW := Lib.hid S1.out; have RE := Lib.hid (s1.row (S1.out.row HGE.out (fun _ _ h => h)) (fun k hk e => own_apart HGA.out HGE.out (by decide) e hk)); obtain ⟨z0, z1, _, _⟩ := ent_cells (s1.obj (S1.out.obj HYB.out id) (fun e => by have := HNA5.out _ (Or.inl e); omega)); have zl := lt_of_block (s1.obj (S1.out.obj HYB.out id) (fun e => by have := HNA5.out _ (Or.inl e); omega)); clear o1 s1 t1)
                      | (refine step_at ((w6.drew.alloc (.cells #[.int .i64 (p : Int)] 3)).alloc (.cells #[.slice yo yn yc, .int .i64 yi] 57)) rfl (.tmp 92) (.tmp 94) rfl N H.length (w6.heap.size) u11 _ (p : Int) (by simp [Act.eval, Act.put]) (S2.out.row HGA.out (fun _ _ h => h)) (by simp [Act.eval, Act.put]) A2.out (by omega) (by have := S2.out.size; omega) ?_; intro g1 c1 wA o1 s1 t1; have O1 := Lib.hid o1; have T1 := Lib.hid t1; have SA := Lib.hid s1; have SW := Lib.hid S2.out; have RE := Lib.hid (s1.row (S2.out.row HGE.out (fun _ _ h => h)) (fun k hk e => own_apart HGA.out HGE.out (by decide) e hk)); obtain ⟨z0, z1, _, _⟩ := ent_cells (s1.obj (S2.out.obj HYB.out id) (fun e => by have := HNA5.out _ (Or.inl e); omega)); have zl := lt_of_block (s1.obj (S2.out.obj HYB.out id) (fun e => by have := HNA5.out _ (Or.inl e); omega)); have ZB := Lib.hid (s1.obj B2.out (fun e => by have := (HGA.out.lt _ e).2; omega)); clear o1 s1 t1)
                      | (refine step_at ((w6.drew.alloc (.cells #[.slice yo yn yc, .int .i64 yi] 57)).alloc (.cells #[.int .i64 (p : Int)] 3)) rfl (.tmp 92) (.tmp 94) rfl N H.length (w6.heap.size + 1) u11 _ (p : Int) (by simp [Act.eval, Act.put]) (S3.out.row HGA.out (fun _ _ h => h)) (by simp [Act.eval, Act.put]) A3.out (by omega) (by have := S3.out.size; omega) ?_; intro g1 c1 wA o1 s1 t1; have O1 := Lib.hid o1; have T1 := Lib.hid t1; have SA := Lib.hid s1; have SW := Lib.hid S3.out; have RE := Lib.hid (s1.row (S3.out.row HGE.out (fun _ _ h => h)) (fun k hk e => own_apart HGA.out HGE.out (by decide) e hk)); obtain ⟨z0, z1, _, _⟩ := ent_cells (s1.obj (S3.out.obj HYB.out id) (fun e => by have := HNA5.out _ (Or.inl e); omega)); have zl := lt_of_block (s1.obj (S3.out.obj HYB.out id) (fun e => by have := HNA5.out _ (Or.inl e); omega)); have ZB := Lib.hid (s1.obj B3.out (fun e => by have := (HGA.out.lt _ e).2; omega)); clear o1 s1 t1)
                      | (refine step_gone (wA.alloc (.cells #[.slice yo yn yc, .int .i64 yi] 57)) rfl (.tmp 96) (.tmp 98) rfl N H.length (wA.heap.size) u12 _ yo yn yc yi (by simp [Act.eval, Act.put]) (((Same.refl (fun _ => False) wA).alloc _).row RE.out (fun _ _ h => h)) (by simp [Act.eval, Act.put]) (heap_alloc_new _ _) (by omega) (by have e1 := SW.out.size; have e2 := SA.out.size; have e3 := (((Same.refl (fun _ => False) wA).alloc (.cells #[.slice yo yn yc, .int .i64 yi] 57))).size; omega) ?_; intro g2 c2 wB o2 s2 t2; have HE := Lib.hid (two_end HGA.out HGE.out SW.out O1.out SA.out T1.out ((Same.refl (fun _ => False) wA).alloc (.cells #[.slice yo yn yc, .int .i64 yi] 57)) o2 s2 t2); clear o2 s2 t2)
                      | (refine step_gone wA rfl (.tmp 96) (.tmp 98) rfl N H.length (w6.heap.size + 1) u12 _ yo yn yc yi (by simp [Act.eval, Act.put]) RE.out (by simp [Act.eval, Act.put]) ZB.out (by omega) (by have e1 := SW.out.size; have e2 := SA.out.size; have e3 := ((Same.refl (fun _ => False) wA)).size; omega) ?_; intro g2 c2 wB o2 s2 t2; have HE := Lib.hid (two_end HGA.out HGE.out SW.out O1.out SA.out T1.out (Same.refl (fun _ => False) wA) o2 s2 t2); clear o2 s2 t2)
                      | (refine step_gone wA rfl (.tmp 96) (.tmp 98) rfl N H.length (w6.heap.size) u12 _ yo yn yc yi (by simp [Act.eval, Act.put]) RE.out (by simp [Act.eval, Act.put]) ZB.out (by omega) (by have e1 := SW.out.size; have e2 := SA.out.size; have e3 := ((Same.refl (fun _ => False) wA)).size; omega) ?_; intro g2 c2 wB o2 s2 t2; have HE := Lib.hid (two_end HGA.out HGE.out SW.out O1.out SA.out T1.out (Same.refl (fun _ => False) wA) o2 s2 t2); clear o2 s2 t2))
                    all_goals go_wp2_with fail
                    all_goals go_meet
                    all_goals (
                      obtain ⟨e1, e2, e3, e4, e5, e6, e7, e8, e9⟩ := HE.out
                      refine ⟨e1, e2, e3, fun q hq => ?_, fun q hq => ?_⟩
                      · obtain rfl : g1 = q := by simpa [Value.ownBlock] using hq
                        exact ⟨e8, e6, e4⟩
                      · obtain rfl : g2 = q := by simpa [Value.ownBlock] using hq
                        exact ⟨e9, e7, e5⟩)
                  case rest =>
                    obtain ⟨r11, r12, hs24, hb11, hb12⟩ := hcut
                    have hop7 := HOP6.out.beside (A' := Aof u11 u12) hs24 (fun e he q hq => HKN3.out e he q hq) (fun q hq => hq.elim (fun h => ⟨(hb11 q h).1, (hb11 q h).2.1, ((hb11 q h).2.2).imp Or.inl id⟩) (fun h => ⟨(hb12 q h).1, (hb12 q h).2.1, ((hb12 q h).2.2).imp Or.inr id⟩))
                    have hyc := hs24.obj HYB.out (fun e => by have := HNA5.out _ e; omega)
                    obtain ⟨z0, z1, _, _⟩ := ent_cells hyc
                    have hyl2 := lt_of_block hyc
                    have HPL := Lib.hid (orp_noplace (rid := yi) hop7 (by have := HL3.out; omega) HNO3.out.1)
                    have hgo7 : Gone wc N t M u11 u12 ((p, (⟨yo, yn, yc, yi, yk⟩ : En)) :: H) := by
                      refine ⟨?_, ?_, fun p' hp' => ?_⟩
                      · rw [List.reverse_cons, List.map_append]
                        exact r11
                      · rw [List.reverse_cons, List.map_append, entsV_append]
                        exact r12
                      · have key : ∀ e : En, KeyOk w6 (mtp M) e.key e.kv → (∀ i, e.key.ownBlock = some i → i < N ∧ i ≠ t) → KeyOk wc (mtp M) e.key e.kv := fun e h1 h2 => h1.kept hs24 (fun q hq hA => by have e1 := (HOP6.out.nA q hA).1; have e2 := (h2 q hq).1; omega)
                        rcases List.mem_cons.1 hp' with h | h
                        · subst h
                          exact ⟨key _ HKY6.out HKYN.out, HKYN.out⟩
                        · obtain ⟨k1, k2⟩ := HGO6.out.keys p' h
                          exact ⟨key _ k1 k2, k2⟩
                    have HOP7 := Lib.hid hop7; have HGO7 := Lib.hid hgo7
                    clear r11 r12 hs24 hb11 hb12 hop7 hyc hgo7
                    go_wp2_with fail
                    refine HPL.out.mono ?_
                    rintro r w9 ⟨rfl, hs9⟩
                    have HOP8 := Lib.hid (HOP7.out.quiet hs9); have HGO8 := Lib.hid (HGO7.out.quiet hs9)
                    clear hs9
                    go_wp2_with fail
                    go_roundg (bs.length - (i + 1))
                    case measure => have := HI2.out; have := HLI.out; omega
                    case rel => exact ⟨i + 1, L3, (p, ⟨yo, yn, yc, yi, yk⟩) :: H, by have := HI2.out; have := HLI.out; omega, by go_num, HUN3.out, HNO3.out.2, HKN3.out, HL3.out, by have := HHI.out; simp; omega, HGO8.out, HOP8.out⟩
              · rw [decide_eq_false hcc]
                have hop2 := HOP.out.quiet hsc
                have hgo2 := HGO2.out.quiet hsc
                obtain ⟨va1, va2, rfl⟩ : ∃ ao c, u11 = .slice ao H.length c := by
                  rcases hgo2.at_.2 with ⟨e, h0⟩ | ⟨g, c, _, e, _⟩
                  · exact ⟨none, 0, by rw [e, h0]⟩
                  · exact ⟨_, c, e⟩
                obtain ⟨vg1, vg2, rfl⟩ : ∃ ao c, u12 = .slice ao H.length c := by
                  rcases hgo2.en.2 with ⟨e, h0⟩ | ⟨g, c, _, e, _⟩
                  · exact ⟨none, 0, by rw [e, h0]⟩
                  · exact ⟨_, c, e⟩
                have HOPX := Lib.hid hop2; have HGOX := Lib.hid hgo2
                clear hsc hop2 hgo2
                go_wp2_with fail
                go_loopg [19] H.length (fun rr v19 wr => ∃ (R D : List (Nat × En)) (L3 : List En) (k : Nat), R.length = rr ∧ H = D ++ R ∧ v19 = .int .i64 ((R.length : Int) - 1) ∧ Undo (kvs L) (hk R) (kvs L3) ∧ L3.length + R.length = L.length ∧ k + R.length ≤ 200 ∧ Gone wr N t M (.slice va1 H.length va2) (.slice vg1 H.length vg2) H ∧ OrP w PB M x t bm bn N (Aof (.slice va1 H.length va2) (.slice vg1 H.length vg2)) (.slice wo W.length wcp) W L3 k wr)
                case atStart => exact ⟨H, [], L2, ls.length + H.length, rfl, rfl, by go_num, HUN.out, HLE.out, by omega, HGOX.out, HOPX.out⟩
                case round =>
                  obtain ⟨R, D, L3, k, hR, hH, rfl, hun, hlen, hk2, hgo, hop⟩ := hrel
                  cases R with
                  | nil =>
                    have HLEN3 := Lib.hid (orp_len hop)
                    have HKV3 := Lib.hid (show kvs L3 = kvs L from hun)
                    have HOP3 := Lib.hid hop
                    have hl3 : L3.length ≤ 40 := by simp at hlen; omega
                    clear hR hH hun hlen hk2 hgo hop
                    go_wp2_with fail
                    refine HLEN3.out.mono ?_
                    rintro r w9 ⟨rfl, hs9⟩
                    have HBAD := Lib.hid (orp_bad (HOP3.out.quiet hs9))
                    have HS9 := Lib.hid hs9
                    clear hs9
                    go_wp2_with fail
                    refine HBAD.out.mono ?_
                    rintro r w10 ⟨rfl, hs10⟩
                    have hs11 : Same (fun _ => False) wr (w10.alloc entNil) := (HS9.out.trans hs10 (fun _ _ h => h)).alloc _
                    have HALL3 := Lib.hid (orp_all (HOP3.out.quiet hs11) (by omega))
                    have HS11 := Lib.hid hs11
                    clear hs10 hs11
                    go_wp2_with fail
                    refine HALL3.out.mono ?_
                    rintro r w12 ⟨nv, NL, rfl, hkn, hen, hs12⟩
                    have HS12 := Lib.hid (HS11.out.trans hs12 (fun _ _ h => h))
                    have HENT := Lib.hid (entries_same hen (HOP3.out.quiet HS12.out).was (fun e he => by
                      obtain ⟨y, hy, _, hyk⟩ := kvs_mem (hkn.trans HKV3.out) he
                      rw [← hyk]
                      exact ⟨(HKV.out y hy).1, (HKV.out y hy).2.1⟩) ((hkn.trans HKV3.out).trans HKVS.out.symm) (by have := kvs_length hkn; omega))
                    obtain ⟨no, nc, rfl, _⟩ := ReadE.shape hen.row
                    clear hkn hen hs12
                    go_wp2_with fail
                    refine HENT.out.mono ?_
                    rintro r w13 ⟨rfl, hs13⟩
                    have hopz := HOP3.out.quiet (HS12.out.trans hs13 (fun _ _ h => h))
                    have HW := Lib.hid (orp_worse hopz)
                    obtain ⟨m9, hm9, hm8⟩ : ∃ m', mtp M = .pointer (some ⟨m', 0, none⟩) ∧ w13.heap[m']? = some (meterObj 0 0 0 0) := by
                      rcases hopz.mm with h | ⟨m', h1, h2⟩
                      · cases h
                      · exact ⟨m', h1, h2⟩
                    obtain rfl : M = m9 := by simpa using hm9
                    obtain ⟨mc0, _, _, _, _⟩ := meter_cells hm8
                    have hml2 := lt_of_block hm8
                    have HSZ := Lib.hid hopz.same
                    clear hs13 hopz hm9 hm8
                    go_wp2_with fail
                    refine HW.out.mono ?_
                    rintro r w14 ⟨rfl, hs14⟩
                    have HS14 := Lib.hid hs14
                    clear hs14
                    go_wp2_with fail
                    go_ret
                    exact ⟨rfl, (HSZ.out.trans HS14.out (fun _ _ h => h.elim)).weaken (fun i hi h => by omega)⟩
                  | cons pe R =>
                    obtain ⟨p, y⟩ := pe
                    have hrv : H.reverse = R.reverse ++ ((p, y) :: D.reverse) := by rw [hH]; simp
                    have hgl : H.reverse[R.length]? = some (p, y) := by rw [hrv]; simp
                    have hRl : R.length < H.length := by rw [hH]; simp; omega
                    obtain ⟨ky, kyn⟩ := hgo.keys (p, y) (by rw [hH]; simp)
                    have hdr : Same (fun _ => False) wr wr.drew := (Same.refl (fun _ => False) wr).drew
                    have hple : p ≤ L3.length := by have := hun.1; rw [kvs_len] at this; exact this
                    have HINS := Lib.hid (orp_insert (i := p) (e := y) (hop.quiet hdr) (ky.kept hdr (fun _ _ => id)) hple (by simp at hlen; omega) (by omega))
                    have hat : ∃ gb, va1 = some ⟨gb, 0, none⟩ ∧ gb < wr.heap.size ∧ wr.cell? ⟨gb, R.length, none⟩ = some (.int .i64 (p : Int)) := by
                      rcases hgo.at_.2 with ⟨e, h0⟩ | ⟨g, c, cur, e, _, hg, _, _, _, ht⟩
                      · omega
                      · refine ⟨g, (Value.slice.inj e).1, lt_of_block hg, ?_⟩
                        have h1 : (cur.toList.take (H.length * 1))[R.length]? = some (.int .i64 (p : Int)) := by rw [ht, List.getElem?_map, hgl]; rfl
                        rw [List.getElem?_take_of_lt (by omega)] at h1
                        simp only [World.cell?, hg]
                        simpa using h1
                    obtain ⟨gb, rfl, hgbl, hgc⟩ := hat
                    obtain ⟨eb, eo, rfl, hel, he0, he1⟩ := ReadE.at (ownsRow_readZ hgo.en) (show (H.reverse.map (fun p => p.2))[R.length]? = some y from by rw [List.getElem?_map, hgl]; rfl)
                    have hri : (R.length : Int) < (H.length : Int) := by omega
                    have hcast : (((R.length + 1 : Nat) : Int) - 1) = (R.length : Int) := by omega
                    have HUN5 := Lib.hid hun; have HH5 := Lib.hid hH; have HR5 := Lib.hid hR; have HLEN5 := Lib.hid hlen; have HGO5 := Lib.hid hgo
                    have hk3 := hk2
                    obtain ⟨yo, yn, yc, yi, yk⟩ := y
                    clear hun hH hR hlen hgo hop hrv hgl ky kyn hdr hk2
                    rw [List.length_cons, hcast]
                    go_wp2_with fail
                    go_region_with (first
                      | (go_at_call 24; refine HINS.out.mono ?_; rintro r w9 ⟨rfl, y', hy1, hy2, hop9, hs9⟩; have HOP9 := Lib.hid hop9; have HS9 := Lib.hid hs9; have HY1 := Lib.hid hy1; have HY2 := Lib.hid hy2; clear hop9 hs9 hy1 hy2))
                    all_goals (
                      go_wp2_with fail
                      go_roundg R.length
                      case measure => have := HR5.out; simp at this; omega
                      case rel => exact ⟨R, D ++ [(p, ⟨yo, yn, yc, yi, yk⟩)], _, k + 1, rfl, by rw [HH5.out]; simp, by go_num, (undo_insert HUN5.out HY1.out HY2.out).2, by have := HLEN5.out; simp only [List.length_cons, List.length_append, List.length_take, List.length_drop] at this ⊢; omega, by simp at hk3; omega, (HGO5.out.quiet ((Same.refl (fun _ => False) wr).drew)).kept HS9.out HOP9.out.tn.2.1, HOP9.out⟩)

end Go.Proofs.YtgfmemggfbgjeaaGreatDoor
