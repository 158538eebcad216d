/-
  seqidx: Add, Splice, by what the index is made of. Conditions: few elements.
-/
import Derived.Test.YtelgbigpfiohfaaSeqC
import Derived.Test.YtelgbigpfiohfaaSeqM
namespace Go.Proofs.Ytelgbigpfiohfaa
open Go.RowKit Go.Extern.Stop Go.Stop Go.Extern Go.Lib Go.Maps
set_option maxRecDepth 1000000

theorem seqP_insert {w : World} {P : Nat → Prop} {x k u : Nat} {L : List Int} {i y : Int} (h : IxP 67 w P x L k) (hP : ∀ q, w.heap.size ≤ q → P q) (hi : i = u) (hu : u ≤ L.length) (hL : L.length ≤ 80000) (hk : k ≤ 100000) (hy : y ∉ L) (hy64 : I64 y) :
    Calls Try.prog 36 #[.pointer (some ⟨x, 0, none⟩), .int .i64 i, .int .i64 y] w fun e w' => e = .returned (.int .i64 0) ∧ IxP 67 w' P x (ins L u y) (k + 1) ∧ Same P w w' := by
  obtain ⟨c, N, hx, h0, h1, h2⟩ := h
  subst hi
  have HH := Lib.hid (seq_has (q := false) hx hy64 (by simp [hy]))
  have HLEN := Lib.hid (fun (w' : World) (hs : Same (fun _ => False) w w') => seq_len (hx.keep hs (fun _ h => h.elim)))
  have HPU := Lib.hid (fun (w' : World) (hs : Same (fun _ => False) w w') => seq_puts (i := u) (hx.keep hs (fun _ h => h.elim)) (fun q hq => hP q (by have := hs.size; omega)) hL ⟨h0, by omega⟩ (by omega) hu hy hy64)
  have hmost := most_small hL
  have hul : ¬ ((L.length : Int) < (u : Int)) := by omega
  have hui : (u : Int) ≤ (L.length : Int) := by omega
  clear hx hy
  go_enter Try.func36, Try.ntmps36
  go_wp2_with fail
  refine HH.out.mono ?_
  rintro e w1 ⟨rfl, hs⟩
  have HL1 := Lib.hid (HLEN.out w1 hs); have HP1 := Lib.hid (HPU.out w1 hs); have HS := Lib.hid hs
  clear hs
  go_wp2_with (first | (go_at_call 37; refine HL1.out.mono ?_; rintro e w2 ⟨rfl, rfl⟩))
  refine HP1.out.mono ?_
  rintro e w2 ⟨rfl, hg⟩
  obtain ⟨hb, hs2⟩ := ixp_got (k := k) h0 h1 h2 (by omega) hg
  have HB := Lib.hid hb; have HS2 := Lib.hid ((HS.out.weaken (fun _ _ h => h.elim)).trans hs2 (fun _ _ h => h))
  clear hg hb hs2
  go_wp2_with fail
  go_ret
  exact ⟨rfl, HB.out, HS2.out⟩

theorem seqP_add {w : World} {P : Nat → Prop} {x k : Nat} {L : List Int} {y : Int} (h : IxP 67 w P x L k) (hP : ∀ q, w.heap.size ≤ q → P q) (hL : L.length ≤ 80000) (hk : k ≤ 100000) (hy : y ∉ L) (hy64 : I64 y) :
    Calls Try.prog 16 #[.pointer (some ⟨x, 0, none⟩), .int .i64 y] w fun e w' => e = .returned (.int .i64 0) ∧ IxP 67 w' P x (L ++ [y]) (k + 1) ∧ Same P w w' := by
  have HI := Lib.hid (seqP_insert (i := (L.length : Int)) (u := L.length) h hP rfl (Nat.le_refl _) hL hk hy hy64)
  have he : ins L L.length y = L ++ [y] := by simp [ins]
  rw [he] at HI
  obtain ⟨c, N, hx, _⟩ := h
  have HL := Lib.hid (seq_len hx)
  clear hx hy he
  go_enter Try.func16, Try.ntmps16
  go_wp2_with fail
  refine HL.out.mono ?_
  rintro e w1 ⟨rfl, rfl⟩
  go_wp2_with fail
  refine HI.out.mono ?_
  rintro e w2 ⟨rfl, hb, hs⟩
  have HB := Lib.hid hb; have HS := Lib.hid hs
  clear hb hs
  go_wp2_with fail
  go_ret
  exact ⟨rfl, HB.out, HS.out⟩

/-- Rows moved ahead of another one, one behind the other. -/
def spliced (L ids : List Int) (z : Int) : List Int := ids.foldl (fun M y => movedB M y z) L

theorem spliced_snoc (L ids : List Int) (z y : Int) : spliced L (ids ++ [y]) z = movedB (spliced L ids z) y z := by simp [spliced]

theorem spliced_facts {L : List Int} {z : Int} (hn : L.Nodup) (hz : z = 0 ∨ z ∈ L) : ∀ (ids : List Int), (∀ y ∈ ids, y ∈ L ∧ y ≠ 0) → ∀ M, M.length = L.length → M.Nodup → (∀ q, q ∈ M ↔ q ∈ L) → (ids.foldl (fun M y => movedB M y z) M).length = L.length ∧ (ids.foldl (fun M y => movedB M y z) M).Nodup ∧ ∀ q, q ∈ ids.foldl (fun M y => movedB M y z) M ↔ q ∈ L
  | [], _, M, h1, h2, h3 => ⟨h1, h2, h3⟩
  | y :: ids, hm, M, h1, h2, h3 => by
    obtain ⟨f1, f2, f3, _⟩ := movedB_facts h2 ((h3 y).2 (hm y (List.mem_cons_self ..)).1) (hm y (List.mem_cons_self ..)).2 (hz.imp id (fun h => (h3 z).2 h))
    exact spliced_facts hn hz ids (fun q hq => hm q (List.mem_cons_of_mem _ hq)) _ (f1.trans h1) f2 (fun q => (f3 q).trans (h3 q))

theorem map_zero_set (w : World) : SetIs (w.alloc (.map #[] 0)) w.heap.size [] 0 := ⟨.map [], World.ownsMap_made w _ _ _, fun y => by simp [Maps.has]⟩

set_option maxHeartbeats 16000000 in
theorem seqP_splice {w : World} {P : Nat → Prop} {x k : Nat} {L ids : List Int} {z : Int} {v : Value} (h : IxP 67 w P x L k) (hP : ∀ q, w.heap.size ≤ q → P q) (hv : ReadC w 2 v (intsV ids)) (hvP : ∀ q, v.ownBlock = some q → ¬ P q) (hi : ids.length ≤ 1000) (hL : L.length ≤ 80000) (hk : k ≤ 50000) (hn : ids.Nodup) (hm : ∀ y ∈ ids, y ∈ L ∧ y ≠ 0 ∧ y ≠ z) (hz : z = 0 ∨ z ∈ L) (hz64 : I64 z) :
    Calls Try.prog 29 #[.pointer (some ⟨x, 0, none⟩), v, .int .i64 z] w fun e w' => e = .returned (.int .i64 0) ∧ IxP 67 w' P x (spliced L ids z) (k + 2 * ids.length) ∧ Same P w w' := by
  have hmm := @run_makeMap Try.prog
  have hcap : ∃ ao cap, v = .slice ao ids.length cap := by
    obtain ⟨ao, cap, rfl, _⟩ := hv
    exact ⟨ao, cap, by simp⟩
  obtain ⟨ao, cap, rfl⟩ := hcap
  have hs0 : Same (fun _ => False) w (w.alloc (.cells #[.pointer (some ⟨x, 0, none⟩)] 35)) := (Same.refl _ w).alloc _
  have c0 : (w.alloc (.cells #[.pointer (some ⟨x, 0, none⟩)] 35)).cell? ⟨w.heap.size, 0, none⟩ = some (.pointer (some ⟨x, 0, none⟩)) := by simp
  have hsz0 : (w.alloc (.cells #[.pointer (some ⟨x, 0, none⟩)] 35)).heap.size = w.heap.size + 1 := by simp
  have HT := Lib.hid (by
    obtain ⟨c, N, hx, _⟩ := h
    exact seq_target (hx.keep hs0 (fun _ h => h.elim)) hz hz64)
  have HX := Lib.hid (show IxP 67 _ (fun q => P q ∧ q ≠ w.heap.size) x L k from by
    obtain ⟨c, N, hx, h2⟩ := h
    exact ⟨c, N, (hx.mono (fun q hq hp => ⟨hp, Nat.ne_of_lt hq⟩)).keep hs0 (fun _ h => h.elim), h2⟩)
  have HV := Lib.hid (hv.kept hs0 (fun _ _ h => h))
  have HVP := Lib.hid hvP; have HN := Lib.hid hn; have HM := Lib.hid hm; have HZ := Lib.hid hz; have HP := Lib.hid hP
  have HND := Lib.hid h.ok.1; have HS0 := Lib.hid hs0; have HPX := Lib.hid (hP w.heap.size (Nat.le_refl _))
  have HSZ := Lib.hid hsz0
  have H64 := Lib.hid h.ok.2
  clear h hP hv hvP hn hm hz hs0 hsz0
  go_enter Try.func29, Try.ntmps29
  go_wp2_with fail
  refine HT.out.mono ?_
  rintro e w2 ⟨rfl, hs2⟩
  have HX2 := Lib.hid (HX.out.keep hs2)
  have HV2 := Lib.hid (HV.out.kept hs2 (fun _ _ h => h))
  have hbl2 : w.heap.size < w2.heap.size := by have h1 := hs2.size; have h2 := HSZ.out; omega
  have c2 : w2.cell? ⟨w.heap.size, 0, none⟩ = some (.pointer (some ⟨x, 0, none⟩)) := (World.cell?_of_block (a := ⟨w.heap.size, 0, none⟩) (hs2.block w.heap.size (by have h2 := HSZ.out; omega) id)).trans c0
  have HCF := Lib.hid (containsf_any HX2.out c2 hbl2 HV2.out hi (fun y hy => (HM.out y hy).1))
  have HS2 := Lib.hid (HS0.out.trans hs2 (fun _ _ h => h))
  clear hs2 HT HX HV HSZ
  go_wp2_with fail
  refine HCF.out.mono ?_
  rintro e w3 ⟨rfl, hs3⟩
  have HX3 := Lib.hid (HX2.out.keep hs3)
  have HV3 := Lib.hid (HV2.out.kept hs3 (fun _ _ h => h))
  have hbl3 : w.heap.size < w3.heap.size := by have h1 := hs3.size; omega
  have c3 : w3.cell? ⟨w.heap.size, 0, none⟩ = some (.pointer (some ⟨x, 0, none⟩)) := (World.cell?_of_block (a := ⟨w.heap.size, 0, none⟩) (hs3.block w.heap.size hbl2 id)).trans c2
  have HS3 := Lib.hid (HS2.out.trans hs3 (fun _ _ h => h))
  have HSM := Lib.hid (map_zero_set w3)
  have HSA := Lib.hid (show Same (fun _ => False) w3 (w3.alloc (.map #[] 0)) from (Same.refl _ w3).alloc _)
  clear hs3 HCF HX2 HV2 HS2 c2 c0 HS0
  go_wp2_with fail
  go_loopg [9, 10, 11, 26] ids.length (fun rr _ _ _ vi wr => ∃ (j : Nat), j + rr = ids.length ∧ vi = .int .i64 j ∧ SetIs wr w3.heap.size (ids.take j) j ∧ Same (fun _ => False) w3 wr)
  case atStart => exact ⟨0, by omega, rfl, by simpa using HSM.out, HSA.out⟩
  case round =>
    obtain ⟨j, hj, rfl, hset, hs⟩ := hrel
    by_cases hlast : j < ids.length
    · have hl' : (j : Int) < (ids.length : Int) := by omega
      have hjb : (j : Int) < 1001 := by omega
      have ra := HV3.out.kept hs (fun _ _ => id)
      obtain ⟨ab, ao2, ac2, acs, afr, ea, hab, _⟩ := ra.where (by simpa using (by omega : 0 < ids.length))
      simp only [Value.slice.injEq] at ea
      obtain ⟨rfl, -, -⟩ := ea
      have hx := ra.cell (j := j) (x := .int .i64 ids[j]) (by simp [hlast])
      have hla := lt_of_block hab
      have hmem := HM.out ids[j] (List.getElem_mem _)
      have hyz : ¬ ids[j] = z := hmem.2.2
      have hs1 : Same (fun _ => False) wr (wr.alloc (.cells #[] 63)) := (Same.refl _ wr).alloc _
      obtain ⟨D, hown, hhas⟩ := hset
      have hnot : ids[j] ∉ ids.take j := fun hin => by
        obtain ⟨i, hi', he⟩ := List.getElem_of_mem hin
        rw [List.length_take] at hi'
        rw [List.getElem_take] at he
        have := (List.getElem_inj HN.out).1 he
        omega
      have hq : Maps.has D (.int .i64 ids[j]) = false := by rw [has_eq hhas]; simp [hnot]
      have HK := Lib.hid (key_of (H64.out _ hmem.1))
      have HO := Lib.hid hown; have HO1 := Lib.hid (own_keep hown hs1 id); have HHAS := Lib.hid hhas; have HIM := Lib.hid hown.isMap
      have HTK := Lib.hid (show ids.take (j + 1) = ids.take j ++ [ids[j]] from (List.take_append_getElem hlast).symm)
      have HS := Lib.hid (hs.trans hs1 (fun _ _ h => h))
      generalize ids[j] = y at *
      clear ra hab hs hs1 hown hhas hnot hmem
      go_wp2_with (first
        | (at_lookup; refine wpList_lookup_own_unit _ rfl _ _ 60 rfl 2 63 key_law set_under (unit_zero _) w3.heap.size j D rfl HO.out _ _ rfl HK.out ?_)
        | (at_mapUpdate; refine wpList_mapUpdate_own _ rfl _ _ _ 60 rfl 2 63 key_law set_under (unitElem (H := Unit)) w3.heap.size j D rfl HO1.out (by unfold maxLen; omega) _ _ _ rfl rfl HK.out (.agg []) [] unitElem_mk ?_))
      intro wn hown2 hgrow2
      have hs2 : Same (fun q => q = w3.heap.size) (wr.alloc (.cells #[] 63)) wn := ⟨hgrow2.os, hgrow2.tape, hgrow2.output, hgrow2.size, fun q hq hn => hgrow2.block q hq (fun e => hn (by cases e; rfl))⟩
      have HS2 := Lib.hid (HS.out.trans hs2 (fun i hi hF => by omega))
      have HSN := Lib.hid (show SetIs wn w3.heap.size (ids.take (j + 1)) (j + 1) from ⟨_, hown2, fun q => by rw [has_put HIM.out HHAS.out q, HTK.out]; simp [or_comm]⟩)
      clear hown2 hgrow2 hs2
      go_wp2_with fail
      go_roundg (gk - 1)
      case measure => omega
      case rel => exact ⟨j + 1, by omega, by go_num, HSN.out, HS2.out⟩
    · have hl' : ¬ (j : Int) < (ids.length : Int) := by omega
      have HX4 := Lib.hid (HX3.out.keep hs)
      have HV4 := Lib.hid (HV3.out.kept hs (fun _ _ h => h))
      have hbl4 : w.heap.size < wr.heap.size := by have h1 := hs.size; omega
      have c4 : wr.cell? ⟨w.heap.size, 0, none⟩ = some (.pointer (some ⟨x, 0, none⟩)) := (World.cell?_of_block (a := ⟨w.heap.size, 0, none⟩) (hs.block w.heap.size hbl3 id)).trans c3
      have HC4 := Lib.hid c4; have HBL4 := Lib.hid hbl4
      have HS4 := Lib.hid (HS3.out.trans hs (fun _ _ h => h))
      clear hs hset HX3 HV3 c3 c4 HS3 HSM HSA hbl4
      go_wp2_with fail
      clear hl'
      go_loopg [13, 52] ids.length (fun rr _ vi w5 => ∃ (j : Nat), j + rr = ids.length ∧ vi = .int .i64 j ∧ IxP 67 w5 (fun q => P q ∧ q ≠ w.heap.size) x (spliced L (ids.take j) z) (k + 2 * j) ∧ Same (fun q => P q ∧ q ≠ w.heap.size) wr w5)
      case atStart => exact ⟨0, by omega, rfl, by simpa [spliced] using HX4.out, Same.refl _ _⟩
      case round =>
        obtain ⟨j, hj, rfl, hx, hs⟩ := hrel
        by_cases hlast : j < ids.length
        · have hl' : (j : Int) < (ids.length : Int) := by omega
          have hjb : (j : Int) < 1001 := by omega
          have ra := HV4.out.kept hs (fun q hq hF => HVP.out q hq hF.1)
          obtain ⟨ab, ao2, ac2, acs, afr, ea, hab, _⟩ := ra.where (by simpa using (by omega : 0 < ids.length))
          simp only [Value.slice.injEq] at ea
          obtain ⟨rfl, -, -⟩ := ea
          have hxx := ra.cell (j := j) (x := .int .i64 ids[j]) (by simp [hlast])
          have hla := lt_of_block hab
          have hmem := HM.out ids[j] (List.getElem_mem _)
          have hsz := hs.size
          have hbl5 : w.heap.size < wr.heap.size := Nat.lt_of_lt_of_le HBL4.out hsz
          have c5 : wr.cell? ⟨w.heap.size, 0, none⟩ = some (.pointer (some ⟨x, 0, none⟩)) := (World.cell?_of_block (a := ⟨w.heap.size, 0, none⟩) (hs.block w.heap.size HBL4.out (fun h => h.2 rfl))).trans HC4.out
          obtain ⟨f1, f2, f3⟩ := spliced_facts HND.out HZ.out (ids.take j) (fun q hq => ⟨(HM.out q (List.mem_of_mem_take hq)).1, (HM.out q (List.mem_of_mem_take hq)).2.1⟩) L rfl HND.out (fun q => Iff.rfl)
          have HMV := Lib.hid (seqP_move (z := z) hx (fun q hq => ⟨HP.out q (by omega), by omega⟩) (by have h9 : (spliced L (ids.take j) z).length = L.length := f1; omega) (by omega) ((f3 _).2 hmem.1) hmem.2.1 (HZ.out.imp id (fun h => (f3 z).2 h)) hz64 rfl)
          have HTK := Lib.hid (show spliced L (ids.take (j + 1)) z = movedB (spliced L (ids.take j) z) ids[j] z from by rw [← spliced_snoc, List.take_append_getElem hlast])
          have HS := Lib.hid hs
          generalize ids[j] = y at *
          generalize hidx : (spliced L (ids.take j) z).idxOf y = ii at *
          clear ra hab hs hmem hx f1 f2 f3 hsz hidx
          go_wp2_with fail
          refine HMV.out.mono ?_
          rintro e w6 ⟨rfl, h6, hs6⟩
          rw [← HTK.out] at h6
          have H6 := Lib.hid h6; have HS6 := Lib.hid (HS.out.trans hs6 (fun _ _ h => h))
          clear h6 hs6
          go_wp2_with fail
          go_roundg (gk - 1)
          case measure => omega
          case rel => exact ⟨j + 1, by omega, by go_num, H6.out, HS6.out⟩
        · have hl' : ¬ (j : Int) < (ids.length : Int) := by omega
          obtain rfl : ids.length = j := by omega
          have HX5 := Lib.hid hx; have HS5 := Lib.hid hs
          clear hx hs
          go_wp2_with fail
          go_ret
          have h5 := HX5.out
          rw [List.take_length] at h5
          obtain ⟨c, N, hi, h2⟩ := h5
          exact ⟨rfl, ⟨c, N, hi.mono (fun q _ hp => hp.1), h2⟩, (HS4.out.weaken (fun _ _ h => h.elim)).trans (HS5.out.weaken (F' := P) (fun _ _ h => h.1)) (fun _ _ h => h)⟩

end Go.Proofs.Ytelgbigpfiohfaa
