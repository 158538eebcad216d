/-
  key.Of with the statements' extractors. Conditions: few values, few parts, short texts, small counts.
-/
import Derived.Test.YtcbapmkipcffgaaDoorKeyAny
namespace Go.Proofs.YtcbapmkipcffgaaDoor
open Go.RowKit Go.Extern.Stop Go.Stop Go.Extern Go.Lib
set_option maxRecDepth 1000000

set_option maxHeartbeats 8000000 in
theorem of_any {w : World} {name : ByteArray} {kind cmp : Int} {parts hv vs mp : Value} {L : List V} {P : List (Int × Int)} {c a h s : Int} {m : Nat}
    (hh : HkAt w hv mp m) (hr : ∀ w', Same (Blk mp) w w' → ReadV w' vs L) (hp : ∀ w', Same (Blk mp) w w' → ReadP w' parts P)
    (hok : ∀ y ∈ L, y.ok) (hsz : ∀ y ∈ L, y.s.size ≤ 200) (hn : L.length ≤ 1000) (hpn : P.length ≤ 1000) (hm : MAt w mp c a h s) (hsm : MSmall c a s) (hc : c ≤ 1000) :
    Calls Tryd.prog 36 #[defV name kind parts cmp, hv, vs] w fun e w' => Same (Blk mp) w w' ∧ OfEnd name mp a h s (w.heap.size + 2) (keyOut L m mp a P [] c) e w' := by
  obtain ⟨ao, cap, co, cap2, n2, rfl⟩ := hh.view
  obtain ⟨vo, vcap, rfl⟩ := readV_len (hr w (Same.refl _ w))
  have HP := Lib.hid hp; have HR := Lib.hid hr
  obtain ⟨po, pcap, rfl, _⟩ := hp w (Same.refl _ w)
  have HI0 := Lib.hid (OfI.start (name := name) (kind := kind) (parts := .slice po P.length pcap) (cmp := cmp) (ve := .slice ao m cap) (vc := .slice co n2 cap2) (L := L) (m := m) (P := P) hm)
  have HH := Lib.hid hh; have HM := Lib.hid hm; have HSM := Lib.hid hsm; have HOK := Lib.hid hok; have HSZ := Lib.hid hsz
  clear hh hr hp hm hok hsz hsm
  go_enter Tryd.func36, Tryd.ntmps36
  go_wp2_with fail
  go_loopg [16, 8] P.length (fun r i kv wr => ∃ (k : Nat) (done : List V) (c' : Int), k + r = P.length ∧ i = .int .i64 k ∧ OfI w name kind (.slice po P.length pcap) cmp (.slice ao m cap) (.slice co n2 cap2) L m mp a h s P c k kv done c' wr)
  case atStart => exact ⟨0, [], c, by omega, rfl, HI0.out⟩
  case round =>
    obtain ⟨k, done, c', hk, rfl, hI⟩ := hrel
    have HI := Lib.hid hI; have HK := Lib.hid hk
    have HDL := Lib.hid hI.len
    obtain ⟨ko, kc, rfl⟩ := readV_len (ReadV.own hI.own)
    obtain ⟨d0, d1, d2, d3⟩ := def_cells hI.d
    obtain ⟨g0, g1, gf⟩ := hooks_cells hI.hk
    have lh := lt_of_block hI.hk
    have lh0 : w.heap.size < wr.heap.size := by omega
    by_cases hlt : k < P.length
    · obtain ⟨F, H, hpp⟩ : ∃ F H, P[k]? = some (F, H) := ⟨P[k].1, P[k].2, List.getElem?_eq_getElem hlt⟩
      have hpr := HP.out wr hI.same
      have HVR := Lib.hid (HR.out wr hI.same)
      obtain ⟨ao', cap', e1, hpc⟩ := hpr
      cases e1
      obtain ⟨b, off, rfl, hbl, p0, p1⟩ := hpc k (F, H) hpp
      have HHK := Lib.hid (HH.out.blk HM.out hI.same)
      have HMR := Lib.hid hI.mt
      have HPP := Lib.hid hpp
      have hlt' : (k : Int) < (P.length : Int) := by omega
      have hcl := hI.cl
      have hs1 : Same (fun _ => False) wr (wr.alloc (.cells #[.int .i64 F, .int .i64 H] 81)) := (Same.refl _ wr).alloc _
      have hcall := part_any (name := name) (kind := kind) (cmp := cmp) (po := some ⟨b, off, none⟩) (pn := P.length) (pc := pcap) (F := F) (H := H) (HHK.out.same hs1) (HVR.out.same hs1) HOK.out HSZ.out hn (HMR.out.same hs1 (fun _ _ => id)) (show MSmall c' a s from ⟨by have := HSM.out.c0; omega, by omega, HSM.out.a0, HSM.out.a1, HSM.out.s0, HSM.out.s1⟩)
      have HC := Lib.hid hcall
      clear hI hpc hpp hk hs1 hcall
      go_wp2_with fail
      refine HC.out.mono ?_
      rintro e w2 ⟨hs2, ht⟩
      have hbl2 := HI.out.blk_lt HM.out hs2
      have HS2 := Lib.hid hs2; have HB2 := Lib.hid hbl2
      clear hs2 hbl2
      have hout := HI.out.out
      rw [keyOut_at HPP.out] at hout
      have HSW := Lib.hid (HI.out.same.trans HB2.out.1 (fun _ _ h => h))
      cases ho : partOut L m mp a (F, H) c' with
      | val y c2 =>
        rw [ho] at ht
        obtain ⟨rfl, hmt⟩ := ht
        obtain ⟨yk, yi, ys, yf⟩ := y
        have HMT := Lib.hid hmt; have HO := Lib.hid ho
        have hw2 := HB2.out.2.2.2.2
        clear hmt ho hout
        go_wp2_with (at_builtin; refine wpList_append_elem (w2.alloc (.cells #[.int .i64 yk, .int .i64 yi, .string ys, .float .f64 yf] 38)) rfl (.tmp 31) (.tmp 33) 29 rfl (w.heap.size + 2) 38 (.agg #[.int .i64 0, .int .i64 0, .string ⟨#[]⟩, .float .f64 0]) 4 40 Tryd.underlying29 value_info rfl (by decide) (.slice ko done.length kc) done.length (vals done) rfl (HB2.out.2.2.2.1.alloc _) [.int .i64 yk, .int .i64 yi, .string ys, .float .f64 yf] 1 ?c5 rfl ?c1 ?c2 ?c3 ?c4 ?_)
        case c5 => simp [go_sem]
        case c1 => intro u hu; simp at hu; rcases hu with rfl | rfl | rfl | rfl <;> rfl
        case c2 => have := HDL.out; unfold maxLen; omega
        case c3 => have := HDL.out; omega
        case c4 => simp; omega
        intro g gcap w4 hown hgrow _ _ _
        have HN := Lib.hid (HI.out.next (y := ⟨yk, yi, ys, yf⟩) HM.out HS2.out HPP.out HO.out (partOut_calls HO.out) HMT.out hown hgrow)
        clear hown hgrow
        go_wp2_with fail
        go_roundg (gk - 1)
        case measure => have := HK.out; omega
        case rel => exact ⟨k + 1, _, c2, by have := HK.out; omega, by go_num, HN.out⟩
      | noKey =>
        rw [ho] at ht hout
        obtain ⟨rfl, hmt⟩ := ht
        have ha : Same (fun _ => False) w2 (w2.alloc V.nil.obj) := (Same.refl _ w2).alloc _
        have HE := Lib.hid (show Same (Blk mp) w (w2.alloc V.nil.obj) ∧ OfEnd name mp a h s (w.heap.size + 2) (keyOut L m mp a P [] c) (.returned (.tuple #[.slice none 0 0, errN 60])) (w2.alloc V.nil.obj) from ⟨HSW.out.trans ha (fun _ _ h => h.elim), by rw [← hout]; exact ⟨rfl, hmt.same ha (fun _ _ => id)⟩⟩)
        clear hmt ho hout ha
        go_wp2_with fail
        go_ret2
        exact HE.out
      | noValue c2 =>
        rw [ho] at ht hout
        obtain ⟨⟨p, rfl, hf⟩, hmt⟩ := ht
        have ha : Same (fun _ => False) w2 (w2.alloc V.nil.obj) := (Same.refl _ w2).alloc _
        have HE := Lib.hid (show Same (Blk mp) w (w2.alloc V.nil.obj) ∧ OfEnd name mp a h s (w.heap.size + 2) (keyOut L m mp a P [] c) (.returned (.tuple #[.slice none 0 0, fltV p])) (w2.alloc V.nil.obj) from ⟨HSW.out.trans ha (fun _ _ h => h.elim), by rw [← hout]; exact ⟨⟨p, rfl, ha.obj hf id⟩, hmt.same ha (fun _ _ => id)⟩⟩)
        clear hmt ho hout ha hf
        go_wp2_with fail
        go_ret2
        exact HE.out
      | mark c2 =>
        rw [ho] at ht hout
        obtain ⟨⟨p, q, rfl, hf, hq⟩, hmt⟩ := ht
        have ha : Same (fun _ => False) w2 (w2.alloc V.nil.obj) := (Same.refl _ w2).alloc _
        have HE := Lib.hid (show Same (Blk mp) w (w2.alloc V.nil.obj) ∧ OfEnd name mp a h s (w.heap.size + 2) (keyOut L m mp a P [] c) (.returned (.tuple #[.slice none 0 0, fltV p])) (w2.alloc V.nil.obj) from ⟨HSW.out.trans ha (fun _ _ h => h.elim), by rw [← hout]; exact ⟨⟨p, q, rfl, ha.obj hf id, ha.obj hq id⟩, hmt.same ha (fun _ _ => id)⟩⟩)
        clear hmt ho hout ha hf hq
        go_wp2_with fail
        go_ret2
        exact HE.out
    · obtain rfl : k = P.length := by omega
      have hout := hI.out
      rw [List.drop_length] at hout
      have HE := Lib.hid (show Same (Blk mp) w wr ∧ OfEnd name mp a h s (w.heap.size + 2) (keyOut L m mp a P [] c) (.returned (.tuple #[.slice ko done.length kc, .nilIface])) wr from ⟨hI.same, by rw [← hout]; exact ⟨⟨_, rfl, hI.own⟩, hI.mt⟩⟩)
      clear hI hlt hk hout
      go_wp2_with fail
      go_ret2
      exact HE.out

end Go.Proofs.YtcbapmkipcffgaaDoor
