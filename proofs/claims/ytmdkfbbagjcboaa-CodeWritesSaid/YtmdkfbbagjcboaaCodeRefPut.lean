/-
  The document's answer: Put tells a row's bytes. Conditions: none on inputs but small lengths.
-/
import Derived.Test.YtmdkfbbagjcboaaCodeEight
import Derived.Test.YtmdkfbbagjcboaaCodeRef
import Derived.Test.YtmdkfbbagjcboaaCodePut
namespace Go.Proofs.Ytmdkfbbagjcboaa
open Go.RowKit

set_option maxRecDepth 100000 in
set_option maxHeartbeats 4000000 in
theorem rput_any {w : World} {v : Value} {L : List V} (h : ReadV w v L) (hok : ∀ x ∈ L, x.ok) (hn : L.length ≤ 1000) :
    Calls Try.prog 11 #[v] w fun e w' =>
      (L.all isV = true → ∃ v', e = .returned (.tuple #[v', .int .i64 0]) ∧ w'.ownsRow w.heap.size 5 1 v' (encL L).length (bytesV (encL L))) ∧
      (L.all isV = false → e = .returned (.tuple #[.slice none 0 0, .int .i64 20])) ∧ Below w.heap.size w w' := by
  obtain ⟨ao, cap, rfl, hc⟩ := h
  have HC := Lib.hid hc; have HOK := Lib.hid hok
  clear hc hok
  go_enter Try.func11, Try.ntmps11
  go_wp2_with fail
  go_loopg [4, 5] L.length (fun r b i wr => ∃ k : Nat, k + r = L.length ∧ i = .int .i64 k ∧ (L.take k).all isV = true ∧ Below w.heap.size w wr ∧ wr.ownsRow w.heap.size 5 1 b (encL (L.take k)).length (bytesV (encL (L.take k))))
  case atStart => exact ⟨0, by omega, rfl, rfl, Below.refl _ _, World.ownsRow_nil _ _ _ _⟩
  case round =>
    obtain ⟨k, hk, rfl, hall, hb, ho⟩ := hrel
    by_cases h0 : gk = 0
    · subst h0
      obtain rfl : k = L.length := by omega
      rw [List.take_length] at hall ho
      have HA := Lib.hid hall; have HB := Lib.hid hb; have HO := Lib.hid ho
      clear hk hall hb ho
      go_wp2_with fail
      go_ret2
      exact ⟨fun _ => ⟨_, rfl, HO.out⟩, fun hf => (by rw [HA.out] at hf; cases hf), HB.out⟩
    · obtain ⟨r, rfl⟩ : ∃ r, gk = r + 1 := ⟨gk - 1, by omega⟩
      have hkl : k < L.length := by omega
      obtain ⟨b, off, hao, hbl, c0, c1, c2, c3⟩ := HC.out k L[k] (by simp [hkl])
      subst hao
      have d0 := (hb.cell (p := ⟨b, off + k * 4, none⟩) hbl).trans c0
      have d1 := (hb.cell (p := ⟨b, off + k * 4 + 1, none⟩) hbl).trans c1
      have d2 := (hb.cell (p := ⟨b, off + k * 4 + 2, none⟩) hbl).trans c2
      have d3 := (hb.cell (p := ⟨b, off + k * 4 + 3, none⟩) hbl).trans c3
      have HA := Lib.hid hall; have HB := Lib.hid hb; have HO := Lib.hid ho; have HK := Lib.hid hk
      clear hk hall hb ho c0 c1 c2 c3 h0
      obtain ⟨x, hx⟩ : ∃ x, x = L[k] := ⟨_, rfl⟩
      rw [← hx] at d0 d1 d2 d3
      have HX := Lib.hid hx; clear hx
      have hxm : x ∈ L := by rw [HX.out]; exact List.getElem_mem _
      have hxo := HOK.out x hxm
      have HXO := Lib.hid hxo
      have hsz := HB.out.size
      have htake : L.take (k + 1) = L.take k ++ [x] := by rw [List.take_succ_eq_append_getElem hkl, ← HX.out]
      have HTK := Lib.hid htake
      clear hxm hxo htake
      by_cases hv : isV x = true
      · have hkind := isV_kinds hv
        have hsize := isV_size hv
        have hb0 := isV_bool hv
        have HV := Lib.hid hv
        have HB0 := Lib.hid hb0
        clear hv hb0
        obtain ⟨xk, xi, xs, xf⟩ := x
        simp only at d0 d1 d2 d3 hkind hsize
        have hxi := HXO.out.i0
        have hxi2 := HXO.out.i1
        have hxf := HXO.out.f1
        simp only at hxi hxi2 hxf
        go_wp2_with fail
        refine (ris_any ⟨xk, xi, xs, xf⟩ HXO.out _).mono ?_
        rintro e W2 ⟨rfl, hW2⟩
        rw [HV.out]
        have hs2 : W2.heap.size = wr.heap.size + 2 := by rw [hW2]; simp
        have hsame : Same (fun _ => False) wr W2 := by rw [hW2]; exact ((Same.refl _ wr).alloc _).alloc _
        have hobj : W2.heap[wr.heap.size]? = some (V.obj ⟨xk, xi, xs, xf⟩) := by
          rw [hW2, Below.heap_alloc _ _ _ (by simp)]
          exact heap_alloc_new _ _
        obtain ⟨e0, e1, e2, e3⟩ := obj_cells hobj
        obtain ⟨P0, hP0⟩ : ∃ P0, P0 = encL (L.take k) := ⟨_, rfl⟩
        have hown2 : W2.ownsRow w.heap.size 5 1 u4 P0.length (bytesV P0) := by
          rw [hP0]
          exact hsame.row HO.out (fun _ _ => id)
        have hune : u4.ownBlock ≠ some wr.heap.size := fun e => by
          have := own_lt HO.out e
          omega
        have hplen : P0.length ≤ 130000 := by
          have := encL_length (L.take k) (fun y hy => isV_size (List.all_eq_true.1 HA.out y hy))
          rw [List.length_take] at this
          rw [hP0]
          omega
        have hbelow : Below w.heap.size w W2 := hsame.below HB.out hsz (fun _ h => h.elim)
        have HP0 := Lib.hid hP0; have HOW := Lib.hid hown2; have HOB := Lib.hid hobj; have HUN := Lib.hid hune; have HBW := Lib.hid hbelow
        have hs2' : w.heap.size ≤ W2.heap.size := hbelow.size
        have hs2'' : wr.heap.size < W2.heap.size := by omega
        clear hP0 hown2 hobj hune hW2 hs2 hsame hbelow d0 d1 d2 d3
        rcases hkind with rfl | rfl | rfl | rfl | rfl
        · go_wp2_with (at_builtin; refine wpList_append_elem W2 rfl (.tmp 21) (.tmp 25) 23 rfl w.heap.size 5 (.int .u8 0) 1 1 Try.underlying23 byte_info rfl (by decide) u4 P0.length (bytesV P0) rfl HOW.out [.int .u8 1] _ rfl rfl ?a1 ?a2 ?a3 ?a4 ?_)
          case a1 => intro u hu; simp at hu; subst hu; rfl
          case a2 => unfold maxLen; omega
          case a3 => omega
          case a4 => omega
          intro g cp W3 hown hgrow hwhere hgl hsl
          have hby := Bytes.app (b := 1) hown hgrow hwhere
          have hob3 := grownBy_one hgrow HOB.out HUN.out
          obtain ⟨f0, f1, f2, f3⟩ := obj_cells hob3
          have hsz3 : w.heap.size ≤ W3.heap.size := by omega
          have hl3 : (P0 ++ [(1 : UInt8)]).length ≤ 130001 := by simp; omega
          have HBY := Lib.hid hby
          clear hown hgrow hwhere hby hob3 e0 e1 e2 e3
          go_wp2_with fail
          rw [u64_key xi hxi hxi2]
          refine (eight_any (l := P0 ++ [1]) HBY.out.own hsz3 (by omega) (xi + 9223372036854775808).toNat (by omega)).mono ?_
          rintro e W4 ⟨v', rfl, hb4⟩
          have hfin := HBY.out.next hb4
          have henc : P0 ++ [(1 : UInt8)] ++ be8 (xi + 9223372036854775808).toNat = encL (L.take (k + 1)) := by
            rw [HTK.out, encL_snoc, ← HP0.out, List.append_assoc]
            rfl
          rw [henc] at hfin
          have HF := Lib.hid hfin
          clear hfin henc hb4 f0 f1 f2 f3
          go_wp2_with fail
          go_roundg r
          case measure => omega
          case rel => exact ⟨k + 1, by have := HK.out; omega, by go_num, all_snoc HTK.out HA.out HV.out, HF.out.same.below HBW.out hs2' (fun c hc => (HOW.out.lt c hc).1), HF.out.own⟩
        · go_wp2_with (at_builtin; refine wpList_append_elem W2 rfl (.tmp 21) (.tmp 25) 23 rfl w.heap.size 5 (.int .u8 0) 1 1 Try.underlying23 byte_info rfl (by decide) u4 P0.length (bytesV P0) rfl HOW.out [.int .u8 2] _ rfl rfl ?b1 ?b2 ?b3 ?b4 ?_)
          case b1 => intro u hu; simp at hu; subst hu; rfl
          case b2 => unfold maxLen; omega
          case b3 => omega
          case b4 => omega
          intro g cp W3 hown hgrow hwhere hgl hsl
          have hby := Bytes.app (b := 2) hown hgrow hwhere
          have hob3 := grownBy_one hgrow HOB.out HUN.out
          obtain ⟨f0, f1, f2, f3⟩ := obj_cells hob3
          have hsz3 : w.heap.size ≤ W3.heap.size := by omega
          have hl3 : (P0 ++ [(2 : UInt8)]).length ≤ 130001 := by simp; omega
          have HBY := Lib.hid hby
          clear hown hgrow hwhere hby hob3 e0 e1 e2 e3
          rcases HB0.out (by simp) with hxi0 | hxi0
          · subst hxi0
            go_wp2_with (at_builtin; refine wpList_append_elem W3 rfl (.tmp 64) (.tmp 68) 23 rfl w.heap.size 5 (.int .u8 0) 1 1 Try.underlying23 byte_info rfl (by decide) (.slice (some ⟨g, 0, none⟩) (P0.length + 1) cp) (P0 ++ [2]).length (bytesV (P0 ++ [2])) rfl HBY.out.own [.int .u8 0] _ rfl rfl ?p1 ?p2 ?p3 ?p4 ?_)
            case p1 => first | rfl | (intro u hu; simp at hu; subst hu; rfl)
            case p2 => unfold maxLen; omega
            case p3 => omega
            first
              | (case p4 => omega)
              | skip
            intro g4 cp4 W4 hown hgrow hwhere hgl4 hsl4
            have hown' : W4.ownsRow w.heap.size 5 1 (.slice (some ⟨g4, 0, none⟩) ((P0 ++ [(2 : UInt8)]).length + 1) cp4) ((P0 ++ [(2 : UInt8)]).length + 1) (bytesV (P0 ++ [(2 : UInt8)]) ++ [.int .u8 ((0 : UInt8).toNat : Int)]) := by simpa using hown
            have hb4 := Bytes.app (b := 0) (v := .slice (some ⟨g, 0, none⟩) (P0.length + 1) cp) hown' hgrow hwhere
            rw [show (P0 ++ [(2 : UInt8)]).length = P0.length + 1 by simp] at hb4
            clear hown'
            clear hown hgrow hwhere
            have hfin := HBY.out.next hb4
            have henc : P0 ++ [(2 : UInt8)] ++ [(0 : UInt8)] = encL (L.take (k + 1)) := by
              rw [HTK.out, encL_snoc, ← HP0.out, List.append_assoc]
              rfl
            rw [henc] at hfin
            have HF := Lib.hid hfin
            clear hfin henc hb4 f0 f1 f2 f3
            go_wp2_with fail
            go_roundg r
            case measure => omega
            case rel => exact ⟨k + 1, by have := HK.out; omega, by go_num, all_snoc HTK.out HA.out HV.out, HF.out.same.below HBW.out hs2' (fun c hc => (HOW.out.lt c hc).1), HF.out.own⟩
          · subst hxi0
            go_wp2_with (at_builtin; refine wpList_append_elem W3 rfl (.tmp 64) (.tmp 68) 23 rfl w.heap.size 5 (.int .u8 0) 1 1 Try.underlying23 byte_info rfl (by decide) (.slice (some ⟨g, 0, none⟩) (P0.length + 1) cp) (P0 ++ [2]).length (bytesV (P0 ++ [2])) rfl HBY.out.own [.int .u8 1] _ rfl rfl ?q1 ?q2 ?q3 ?q4 ?_)
            case q1 => first | rfl | (intro u hu; simp at hu; subst hu; rfl)
            case q2 => unfold maxLen; omega
            case q3 => omega
            first
              | (case q4 => omega)
              | skip
            intro g4 cp4 W4 hown hgrow hwhere hgl4 hsl4
            have hown' : W4.ownsRow w.heap.size 5 1 (.slice (some ⟨g4, 0, none⟩) ((P0 ++ [(2 : UInt8)]).length + 1) cp4) ((P0 ++ [(2 : UInt8)]).length + 1) (bytesV (P0 ++ [(2 : UInt8)]) ++ [.int .u8 ((1 : UInt8).toNat : Int)]) := by simpa using hown
            have hb4 := Bytes.app (b := 1) (v := .slice (some ⟨g, 0, none⟩) (P0.length + 1) cp) hown' hgrow hwhere
            rw [show (P0 ++ [(2 : UInt8)]).length = P0.length + 1 by simp] at hb4
            clear hown'
            clear hown hgrow hwhere
            have hfin := HBY.out.next hb4
            have henc : P0 ++ [(2 : UInt8)] ++ [(1 : UInt8)] = encL (L.take (k + 1)) := by
              rw [HTK.out, encL_snoc, ← HP0.out, List.append_assoc]
              rfl
            rw [henc] at hfin
            have HF := Lib.hid hfin
            clear hfin henc hb4 f0 f1 f2 f3
            go_wp2_with fail
            go_roundg r
            case measure => omega
            case rel => exact ⟨k + 1, by have := HK.out; omega, by go_num, all_snoc HTK.out HA.out HV.out, HF.out.same.below HBW.out hs2' (fun c hc => (HOW.out.lt c hc).1), HF.out.own⟩
        · go_wp2_with (at_builtin; refine wpList_append_elem W2 rfl (.tmp 21) (.tmp 25) 23 rfl w.heap.size 5 (.int .u8 0) 1 1 Try.underlying23 byte_info rfl (by decide) u4 P0.length (bytesV P0) rfl HOW.out [.int .u8 3] _ rfl rfl ?c1 ?c2 ?c3 ?c4 ?_)
          case c1 => intro u hu; simp at hu; subst hu; rfl
          case c2 => unfold maxLen; omega
          case c3 => omega
          case c4 => omega
          intro g cp W3 hown hgrow hwhere hgl hsl
          have hby := Bytes.app (b := 3) hown hgrow hwhere
          have hob3 := grownBy_one hgrow HOB.out HUN.out
          obtain ⟨f0, f1, f2, f3⟩ := obj_cells hob3
          have hsz3 : w.heap.size ≤ W3.heap.size := by omega
          have hl3 : (P0 ++ [(3 : UInt8)]).length ≤ 130001 := by simp; omega
          have HBY := Lib.hid hby
          have hgne : g ≠ wr.heap.size := by
            rcases hwhere with h | h
            · exact fun e => HUN.out (e ▸ h)
            · omega
          have HOB3 := Lib.hid hob3; have HGNE := Lib.hid hgne
          obtain ⟨Q0, hQ0⟩ : ∃ Q0, Q0 = P0 ++ [(3 : UInt8)] := ⟨_, rfl⟩
          rw [← hQ0] at hby hl3
          have hbs : Bytes W3 w.heap.size (.slice (some ⟨g, 0, none⟩) (P0.length + 1) cp) W3 (.slice (some ⟨g, 0, none⟩) (P0.length + 1) cp) Q0 := Bytes.start hby.own
          have HBS := Lib.hid hbs; have HQ0 := Lib.hid hQ0; have HBY2 := Lib.hid hby
          clear hown hgrow hwhere hby hob3 hgne hbs hQ0 HBY e0 e1 e2 e3
          go_wp2_with fail
          go_loopg [4, 7] xs.size (fun r2 v1 i wr2 => ∃ j : Nat, j + r2 = xs.size ∧ i = .int .i64 j ∧ Bytes W3 w.heap.size (.slice (some ⟨g, 0, none⟩) (P0.length + 1) cp) wr2 v1 (Q0 ++ esc (xs.data.toList.take j)))
          case atStart => exact ⟨0, by omega, rfl, by simpa [esc] using HBS.out⟩
          case round =>
            obtain ⟨j, hj, rfl, hb⟩ := hrel
            have HB := Lib.hid hb; clear hb
            have hszb := HB.out.same.size
            obtain ⟨z0, z1, z2, z3⟩ := obj_cells (HB.out.same.obj HOB3.out (fun e => by simp only [Value.ownBlock, Option.some.injEq] at e; exact HGNE.out e))
            clear f0 f1 f2 f3
            simp only at z0 z1 z2 z3
            obtain ⟨M, hM⟩ : ∃ M, M = Q0 ++ esc (xs.data.toList.take j) := ⟨_, rfl⟩
            have hlen : M.length ≤ 131000 := by
              have h1 := esc_length (xs.data.toList.take j)
              rw [List.length_take] at h1
              have h2 : xs.data.toList.length = xs.size := Array.length_toList
              rw [hM, List.length_append]
              omega
            have HBL : Hid (Bytes W3 w.heap.size (.slice (some ⟨g, 0, none⟩) (P0.length + 1) cp) wr u4 M) := by rw [hM]; exact HB.out
            have HO2 := Lib.hid HBL.out.own
            have HM := Lib.hid hM
            clear hM HB
            by_cases h0 : gk = 0
            · subst h0
              obtain rfl : j = xs.size := by omega
              clear hj
              go_wp2_with (at_builtin; refine wpList_append_two wr rfl (.tmp 51) (.tmp 52) 23 rfl w.heap.size 5 (.int .u8 0) 1 Try.underlying23 byte_info rfl u4 M.length (bytesV M) rfl HO2.out (.int .u8 0) (.int .u8 1) _ rfl rfl rfl ?c2 ?c3 ?c4 ?_)
              case c2 => unfold maxLen; omega
              case c3 => omega
              case c4 => omega
              intro g5 cap5 w5 hown hgrow hwhere hgl5 hsl5
              have hb2 := HBL.out.next (Bytes.app2 (b := 0) (c := 1) hown hgrow hwhere)
              have htk : xs.data.toList.take xs.size = xs.data.toList := List.take_of_length_le (by rw [Array.length_toList]; exact Nat.le_refl _)
              have hfe : M ++ [0, 1] = Q0 ++ (esc xs.data.toList ++ [0, 1]) := by rw [HM.out, htk, List.append_assoc]
              rw [hfe] at hb2
              have hfin := HBY2.out.next hb2
              have henc : Q0 ++ (esc xs.data.toList ++ [0, 1]) = encL (L.take (k + 1)) := by
                rw [HTK.out, encL_snoc, ← HP0.out, HQ0.out, List.append_assoc]
                rfl
              rw [henc] at hfin
              have HF := Lib.hid hfin
              clear hfin henc hb2 hown hgrow hwhere htk hfe z0 z1 z2 z3
              go_wp2_with fail
              go_roundg r
              case measure => omega
              case rel => exact ⟨k + 1, by have := HK.out; omega, by go_num, all_snoc HTK.out HA.out HV.out, HF.out.same.below HBW.out hs2' (fun c hc => (HOW.out.lt c hc).1), HF.out.own⟩
            · obtain ⟨r2, rfl⟩ : ∃ r2, gk = r2 + 1 := ⟨gk - 1, by omega⟩
              have hjs : j < xs.size := by omega
              have HJ := Lib.hid hj; clear hj h0
              obtain ⟨c, hc⟩ : ∃ c, xs[j] = c := ⟨_, rfl⟩
              have htake : xs.data.toList.take (j + 1) = xs.data.toList.take j ++ [c] := by
                rw [List.take_succ_eq_append_getElem (by rw [Array.length_toList]; exact hjs), ← hc]
                rfl
              have HTK2 := Lib.hid htake; clear htake
              by_cases hz : c = 0
              · have ht : ((c.toNat : Int) == 0) = true := by rw [hz]; rfl
                have hesc : esc (xs.data.toList.take (j + 1)) = esc (xs.data.toList.take j) ++ [0, 255] := by rw [HTK2.out, esc_append, hz]; rfl
                have HE := Lib.hid hesc; have HZ := Lib.hid hz
                clear hesc hz
                go_wp2_with (at_builtin; refine wpList_append_elem wr rfl (.tmp 36) (.tmp 41) 23 rfl w.heap.size 5 (.int .u8 0) 1 1 Try.underlying23 byte_info rfl (by decide) u4 M.length (bytesV M) rfl HO2.out [.int .u8 (c.toNat : Int)] _ rfl rfl ?cm1 ?cm2 ?cm3 ?cm4 ?_)
                case cm1 => first | rfl | (intro u hu; simp at hu; subst hu; rfl)
                case cm2 => unfold maxLen; omega
                case cm3 => omega
                case cm4 => omega
                intro g5 cap5 w5 hown hgrow hwhere hgl5 hsl5
                have hb2 := HBL.out.next (Bytes.app hown hgrow hwhere)
                obtain ⟨y0, y1, y2, y3⟩ := obj_cells (hb2.same.obj HOB3.out (fun e => by simp only [Value.ownBlock, Option.some.injEq] at e; exact HGNE.out e))
                simp only at y0 y1 y2 y3
                have HB2 := Lib.hid hb2
                have HO3 := Lib.hid hb2.own
                have hz2 := hb2.same.size
                clear hown hgrow hwhere hb2 z0 z1 z2 z3
                have hl2 : (M ++ [c]).length = M.length + 1 := by simp
                have HL2 := Lib.hid hl2; clear hl2
                go_wp2_with (at_builtin; refine wpList_append_elem w5 rfl (.tmp 48) (.tmp 49) 23 rfl w.heap.size 5 (.int .u8 0) 1 1 Try.underlying23 byte_info rfl (by decide) (.slice (some ⟨g5, 0, none⟩) (M.length + 1) cap5) (M ++ [c]).length (bytesV (M ++ [c])) rfl HO3.out [.int .u8 255] _ rfl rfl ?co1 ?co2 ?co3 ?co4 ?_)
                case co1 => first | rfl | (intro u hu; simp at hu; subst hu; rfl)
                case co2 => rw [HL2.out]; unfold maxLen; omega
                case co3 => rw [HL2.out]; omega
                case co4 => omega
                intro g6 cap6 w6 hown hgrow hwhere hgl6 hsl6
                rw [← HL2.out] at hown
                have hb3 := HB2.out.next (Bytes.app (b := 255) hown hgrow hwhere)
                rw [HL2.out] at hb3
                have hfin : Bytes W3 w.heap.size (.slice (some ⟨g, 0, none⟩) (P0.length + 1) cp) w6 (.slice (some ⟨g6, 0, none⟩) (M.length + 1 + 1) cap6) (Q0 ++ esc (xs.data.toList.take (j + 1))) := by
                  rw [HE.out, ← List.append_assoc, ← HM.out]
                  have := hb3
                  rw [HZ.out, List.append_assoc] at this
                  exact this
                have HF := Lib.hid hfin
                clear hown hgrow hwhere hb3 hfin y0 y1 y2 y3
                go_wp2_with fail
                go_roundg r2
                case measure => omega
                case rel => exact ⟨j + 1, by have := HJ.out; omega, by go_num, HF.out⟩
              · have hnz : c.toNat ≠ 0 := fun e => hz (UInt8.toNat_inj.1 e)
                have ht : ((c.toNat : Int) == 0) = false := by simp; omega
                have hesc : esc (xs.data.toList.take (j + 1)) = esc (xs.data.toList.take j) ++ [c] := by rw [HTK2.out, esc_append]; simp [esc, hz]
                have HE := Lib.hid hesc
                clear hesc hz hnz
                go_wp2_with (at_builtin; refine wpList_append_elem wr rfl (.tmp 36) (.tmp 41) 23 rfl w.heap.size 5 (.int .u8 0) 1 1 Try.underlying23 byte_info rfl (by decide) u4 M.length (bytesV M) rfl HO2.out [.int .u8 (c.toNat : Int)] _ rfl rfl ?cn1 ?cn2 ?cn3 ?cn4 ?_)
                case cn1 => first | rfl | (intro u hu; simp at hu; subst hu; rfl)
                case cn2 => unfold maxLen; omega
                case cn3 => omega
                case cn4 => omega
                intro g5 cap5 w5 hown hgrow hwhere hgl5 hsl5
                have hb2 := HBL.out.next (Bytes.app hown hgrow hwhere)
                obtain ⟨y0, y1, y2, y3⟩ := obj_cells (hb2.same.obj HOB3.out (fun e => by simp only [Value.ownBlock, Option.some.injEq] at e; exact HGNE.out e))
                simp only at y0 y1 y2 y3
                rw [HM.out, List.append_assoc, ← HE.out, ← HM.out] at hb2
                have HB2 := Lib.hid hb2
                clear hown hgrow hwhere hb2 z0 z1 z2 z3
                go_wp2_with fail
                go_roundg r2
                case measure => omega
                case rel => exact ⟨j + 1, by have := HJ.out; omega, by go_num, HB2.out⟩
        · go_wp2_with (at_builtin; refine wpList_append_elem W2 rfl (.tmp 21) (.tmp 25) 23 rfl w.heap.size 5 (.int .u8 0) 1 1 Try.underlying23 byte_info rfl (by decide) u4 P0.length (bytesV P0) rfl HOW.out [.int .u8 4] _ rfl rfl ?d1 ?d2 ?d3 ?d4 ?_)
          case d1 => intro u hu; simp at hu; subst hu; rfl
          case d2 => unfold maxLen; omega
          case d3 => omega
          case d4 => omega
          intro g cp W3 hown hgrow hwhere hgl hsl
          have hby := Bytes.app (b := 4) hown hgrow hwhere
          have hob3 := grownBy_one hgrow HOB.out HUN.out
          obtain ⟨f0, f1, f2, f3⟩ := obj_cells hob3
          have hsz3 : w.heap.size ≤ W3.heap.size := by omega
          have hl3 : (P0 ++ [(4 : UInt8)]).length ≤ 130001 := by simp; omega
          have HBY := Lib.hid hby
          have hgne : g ≠ wr.heap.size := by
            rcases hwhere with h | h
            · exact fun e => HUN.out (e ▸ h)
            · omega
          have HOB3 := Lib.hid hob3; have HGNE := Lib.hid hgne
          obtain ⟨Q0, hQ0⟩ : ∃ Q0, Q0 = P0 ++ [(4 : UInt8)] := ⟨_, rfl⟩
          rw [← hQ0] at hby hl3
          have hbs : Bytes W3 w.heap.size (.slice (some ⟨g, 0, none⟩) (P0.length + 1) cp) W3 (.slice (some ⟨g, 0, none⟩) (P0.length + 1) cp) Q0 := Bytes.start hby.own
          have HBS := Lib.hid hbs; have HQ0 := Lib.hid hQ0; have HBY2 := Lib.hid hby
          clear hown hgrow hwhere hby hob3 hgne hbs hQ0 HBY e0 e1 e2 e3
          go_wp2_with fail
          go_loopg [4, 7] xs.size (fun r2 v1 i wr2 => ∃ j : Nat, j + r2 = xs.size ∧ i = .int .i64 j ∧ Bytes W3 w.heap.size (.slice (some ⟨g, 0, none⟩) (P0.length + 1) cp) wr2 v1 (Q0 ++ esc (xs.data.toList.take j)))
          case atStart => exact ⟨0, by omega, rfl, by simpa [esc] using HBS.out⟩
          case round =>
            obtain ⟨j, hj, rfl, hb⟩ := hrel
            have HB := Lib.hid hb; clear hb
            have hszb := HB.out.same.size
            obtain ⟨z0, z1, z2, z3⟩ := obj_cells (HB.out.same.obj HOB3.out (fun e => by simp only [Value.ownBlock, Option.some.injEq] at e; exact HGNE.out e))
            clear f0 f1 f2 f3
            simp only at z0 z1 z2 z3
            obtain ⟨M, hM⟩ : ∃ M, M = Q0 ++ esc (xs.data.toList.take j) := ⟨_, rfl⟩
            have hlen : M.length ≤ 131000 := by
              have h1 := esc_length (xs.data.toList.take j)
              rw [List.length_take] at h1
              have h2 : xs.data.toList.length = xs.size := Array.length_toList
              rw [hM, List.length_append]
              omega
            have HBL : Hid (Bytes W3 w.heap.size (.slice (some ⟨g, 0, none⟩) (P0.length + 1) cp) wr u4 M) := by rw [hM]; exact HB.out
            have HO2 := Lib.hid HBL.out.own
            have HM := Lib.hid hM
            clear hM HB
            by_cases h0 : gk = 0
            · subst h0
              obtain rfl : j = xs.size := by omega
              clear hj
              go_wp2_with (at_builtin; refine wpList_append_two wr rfl (.tmp 51) (.tmp 52) 23 rfl w.heap.size 5 (.int .u8 0) 1 Try.underlying23 byte_info rfl u4 M.length (bytesV M) rfl HO2.out (.int .u8 0) (.int .u8 1) _ rfl rfl rfl ?c2 ?c3 ?c4 ?_)
              case c2 => unfold maxLen; omega
              case c3 => omega
              case c4 => omega
              intro g5 cap5 w5 hown hgrow hwhere hgl5 hsl5
              have hb2 := HBL.out.next (Bytes.app2 (b := 0) (c := 1) hown hgrow hwhere)
              have htk : xs.data.toList.take xs.size = xs.data.toList := List.take_of_length_le (by rw [Array.length_toList]; exact Nat.le_refl _)
              have hfe : M ++ [0, 1] = Q0 ++ (esc xs.data.toList ++ [0, 1]) := by rw [HM.out, htk, List.append_assoc]
              rw [hfe] at hb2
              have hfin := HBY2.out.next hb2
              have henc : Q0 ++ (esc xs.data.toList ++ [0, 1]) = encL (L.take (k + 1)) := by
                rw [HTK.out, encL_snoc, ← HP0.out, HQ0.out, List.append_assoc]
                rfl
              rw [henc] at hfin
              have HF := Lib.hid hfin
              clear hfin henc hb2 hown hgrow hwhere htk hfe z0 z1 z2 z3
              go_wp2_with fail
              go_roundg r
              case measure => omega
              case rel => exact ⟨k + 1, by have := HK.out; omega, by go_num, all_snoc HTK.out HA.out HV.out, HF.out.same.below HBW.out hs2' (fun c hc => (HOW.out.lt c hc).1), HF.out.own⟩
            · obtain ⟨r2, rfl⟩ : ∃ r2, gk = r2 + 1 := ⟨gk - 1, by omega⟩
              have hjs : j < xs.size := by omega
              have HJ := Lib.hid hj; clear hj h0
              obtain ⟨c, hc⟩ : ∃ c, xs[j] = c := ⟨_, rfl⟩
              have htake : xs.data.toList.take (j + 1) = xs.data.toList.take j ++ [c] := by
                rw [List.take_succ_eq_append_getElem (by rw [Array.length_toList]; exact hjs), ← hc]
                rfl
              have HTK2 := Lib.hid htake; clear htake
              by_cases hz : c = 0
              · have ht : ((c.toNat : Int) == 0) = true := by rw [hz]; rfl
                have hesc : esc (xs.data.toList.take (j + 1)) = esc (xs.data.toList.take j) ++ [0, 255] := by rw [HTK2.out, esc_append, hz]; rfl
                have HE := Lib.hid hesc; have HZ := Lib.hid hz
                clear hesc hz
                go_wp2_with (at_builtin; refine wpList_append_elem wr rfl (.tmp 36) (.tmp 41) 23 rfl w.heap.size 5 (.int .u8 0) 1 1 Try.underlying23 byte_info rfl (by decide) u4 M.length (bytesV M) rfl HO2.out [.int .u8 (c.toNat : Int)] _ rfl rfl ?dm1 ?dm2 ?dm3 ?dm4 ?_)
                case dm1 => first | rfl | (intro u hu; simp at hu; subst hu; rfl)
                case dm2 => unfold maxLen; omega
                case dm3 => omega
                case dm4 => omega
                intro g5 cap5 w5 hown hgrow hwhere hgl5 hsl5
                have hb2 := HBL.out.next (Bytes.app hown hgrow hwhere)
                obtain ⟨y0, y1, y2, y3⟩ := obj_cells (hb2.same.obj HOB3.out (fun e => by simp only [Value.ownBlock, Option.some.injEq] at e; exact HGNE.out e))
                simp only at y0 y1 y2 y3
                have HB2 := Lib.hid hb2
                have HO3 := Lib.hid hb2.own
                have hz2 := hb2.same.size
                clear hown hgrow hwhere hb2 z0 z1 z2 z3
                have hl2 : (M ++ [c]).length = M.length + 1 := by simp
                have HL2 := Lib.hid hl2; clear hl2
                go_wp2_with (at_builtin; refine wpList_append_elem w5 rfl (.tmp 48) (.tmp 49) 23 rfl w.heap.size 5 (.int .u8 0) 1 1 Try.underlying23 byte_info rfl (by decide) (.slice (some ⟨g5, 0, none⟩) (M.length + 1) cap5) (M ++ [c]).length (bytesV (M ++ [c])) rfl HO3.out [.int .u8 255] _ rfl rfl ?do1 ?do2 ?do3 ?do4 ?_)
                case do1 => first | rfl | (intro u hu; simp at hu; subst hu; rfl)
                case do2 => rw [HL2.out]; unfold maxLen; omega
                case do3 => rw [HL2.out]; omega
                case do4 => omega
                intro g6 cap6 w6 hown hgrow hwhere hgl6 hsl6
                rw [← HL2.out] at hown
                have hb3 := HB2.out.next (Bytes.app (b := 255) hown hgrow hwhere)
                rw [HL2.out] at hb3
                have hfin : Bytes W3 w.heap.size (.slice (some ⟨g, 0, none⟩) (P0.length + 1) cp) w6 (.slice (some ⟨g6, 0, none⟩) (M.length + 1 + 1) cap6) (Q0 ++ esc (xs.data.toList.take (j + 1))) := by
                  rw [HE.out, ← List.append_assoc, ← HM.out]
                  have := hb3
                  rw [HZ.out, List.append_assoc] at this
                  exact this
                have HF := Lib.hid hfin
                clear hown hgrow hwhere hb3 hfin y0 y1 y2 y3
                go_wp2_with fail
                go_roundg r2
                case measure => omega
                case rel => exact ⟨j + 1, by have := HJ.out; omega, by go_num, HF.out⟩
              · have hnz : c.toNat ≠ 0 := fun e => hz (UInt8.toNat_inj.1 e)
                have ht : ((c.toNat : Int) == 0) = false := by simp; omega
                have hesc : esc (xs.data.toList.take (j + 1)) = esc (xs.data.toList.take j) ++ [c] := by rw [HTK2.out, esc_append]; simp [esc, hz]
                have HE := Lib.hid hesc
                clear hesc hz hnz
                go_wp2_with (at_builtin; refine wpList_append_elem wr rfl (.tmp 36) (.tmp 41) 23 rfl w.heap.size 5 (.int .u8 0) 1 1 Try.underlying23 byte_info rfl (by decide) u4 M.length (bytesV M) rfl HO2.out [.int .u8 (c.toNat : Int)] _ rfl rfl ?dn1 ?dn2 ?dn3 ?dn4 ?_)
                case dn1 => first | rfl | (intro u hu; simp at hu; subst hu; rfl)
                case dn2 => unfold maxLen; omega
                case dn3 => omega
                case dn4 => omega
                intro g5 cap5 w5 hown hgrow hwhere hgl5 hsl5
                have hb2 := HBL.out.next (Bytes.app hown hgrow hwhere)
                obtain ⟨y0, y1, y2, y3⟩ := obj_cells (hb2.same.obj HOB3.out (fun e => by simp only [Value.ownBlock, Option.some.injEq] at e; exact HGNE.out e))
                simp only at y0 y1 y2 y3
                rw [HM.out, List.append_assoc, ← HE.out, ← HM.out] at hb2
                have HB2 := Lib.hid hb2
                clear hown hgrow hwhere hb2 z0 z1 z2 z3
                go_wp2_with fail
                go_roundg r2
                case measure => omega
                case rel => exact ⟨j + 1, by have := HJ.out; omega, by go_num, HB2.out⟩
        · go_wp2_with (at_builtin; refine wpList_append_elem W2 rfl (.tmp 21) (.tmp 25) 23 rfl w.heap.size 5 (.int .u8 0) 1 1 Try.underlying23 byte_info rfl (by decide) u4 P0.length (bytesV P0) rfl HOW.out [.int .u8 5] _ rfl rfl ?e1 ?e2 ?e3 ?e4 ?_)
          case e1 => intro u hu; simp at hu; subst hu; rfl
          case e2 => unfold maxLen; omega
          case e3 => omega
          case e4 => omega
          intro g cp W3 hown hgrow hwhere hgl hsl
          have hby := Bytes.app (b := 5) hown hgrow hwhere
          have hob3 := grownBy_one hgrow HOB.out HUN.out
          obtain ⟨f0, f1, f2, f3⟩ := obj_cells hob3
          have hsz3 : w.heap.size ≤ W3.heap.size := by omega
          have hl3 : (P0 ++ [(5 : UInt8)]).length ≤ 130001 := by simp; omega
          have HBY := Lib.hid hby
          clear hown hgrow hwhere hby hob3 e0 e1 e2 e3
          go_wp2_with fail
          refine (rorder_any xf hxf _).mono ?_
          rintro e W3' ⟨rfl, rfl⟩
          go_wp2_with fail
          refine (eight_any (l := P0 ++ [5]) HBY.out.own hsz3 (by omega) (ord xf) (ord_lt hxf)).mono ?_
          rintro e W4 ⟨v', rfl, hb4⟩
          have hfin := HBY.out.next hb4
          have henc : P0 ++ [(5 : UInt8)] ++ be8 (ord xf) = encL (L.take (k + 1)) := by
            rw [HTK.out, encL_snoc, ← HP0.out, List.append_assoc]
            rfl
          rw [henc] at hfin
          have HF := Lib.hid hfin
          clear hfin henc hb4 f0 f1 f2 f3
          go_wp2_with fail
          go_roundg r
          case measure => omega
          case rel => exact ⟨k + 1, by have := HK.out; omega, by go_num, all_snoc HTK.out HA.out HV.out, HF.out.same.below HBW.out hs2' (fun c hc => (HOW.out.lt c hc).1), HF.out.own⟩
      · have hvf : isV x = false := by simpa using hv
        have HV := Lib.hid hvf
        clear hv hvf
        go_wp2_with fail
        refine (ris_any x HXO.out _).mono ?_
        rintro e W2 ⟨rfl, hW2⟩
        rw [HV.out]
        have hbelow : Below w.heap.size w W2 := by rw [hW2]; exact (HB.out.alloc hsz _).alloc (by simp; omega) _
        have HBW := Lib.hid hbelow
        clear hbelow hW2
        go_wp2_with fail
        go_ret2
        refine ⟨fun hf => ?_, fun _ => rfl, HBW.out⟩
        have := List.all_eq_true.1 hf x (by rw [HX.out]; exact List.getElem_mem _)
        rw [HV.out] at this
        cases this

end Go.Proofs.Ytmdkfbbagjcboaa
