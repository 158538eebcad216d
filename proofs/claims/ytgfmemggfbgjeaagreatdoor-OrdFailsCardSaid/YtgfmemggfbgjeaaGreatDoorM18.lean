/-
  slices.Grow of nil, slices.Concat of rows. Conditions: no row is empty, they aren't long together.
-/
import Derived.Test.YtgfmemggfbgjeaaGreatDoorM17
namespace Go.Proofs.YtgfmemggfbgjeaaGreatDoor
open Go.RowKit Go.Extern.Stop Go.Stop Go.Extern Go.Lib
set_option maxRecDepth 1000000

/-- Rows one behind the other. -/
def flatV {α : Type} (ls : List (List α)) : List α := ls.flatten

theorem flat_take {α : Type} {ls : List (List α)} {j : Nat} {l : List α} (h : ls[j]? = some l) : flatV (ls.take (j + 1)) = flatV (ls.take j) ++ l := by
  unfold flatV
  rw [List.take_add_one, h]
  simp

theorem flat_le {α : Type} (ls : List (List α)) (j : Nat) : (flatV (ls.take j)).length ≤ (flatV ls).length := by
  unfold flatV
  conv => rhs; rw [← List.take_append_drop j ls, List.flatten_append, List.length_append]
  omega

theorem growi {w : World} {n : Nat} (h0 : 0 < n) (hn : n ≤ 1000000) :
    Calls Tryz.prog 111 #[.slice none 0 0, .int .i64 n] w fun e w' => ∃ g G, e = .returned (.slice (some ⟨g, 0, none⟩) 0 G) ∧ w'.ownsRow w.heap.size 57 2 (.slice (some ⟨g, 0, none⟩) 0 G) 0 [] ∧ Same (fun _ => False) w w' := by
  obtain ⟨i0, hi0, hz, hs, hby⟩ := infoi
  have hr := fun ty => Lib.run_append_nil_zeros (P := Tryz.prog) w 61 3 ty 57 i0 (.agg #[.slice none 0 0, .int .i64 0]) .i64 .i64 (by kernel_rfl) (by kernel_rfl) hi0 hz n h0 (by omega) (by omega) (by rw [hby]; omega)
  have hG := grownCap_ge w n 0 57
  have hM := grownCap_le_maxLen w n 0 57 (by unfold maxLen; omega)
  generalize hGe : grownCap w n 0 57 = G at hr hG hM
  obtain ⟨W1, hW1⟩ : ∃ W1, W1 = w.drew.alloc (.cells (Builtin.zeroCells ((.agg #[.slice none 0 0, .int .i64 0]) : Value).cells n ++ Builtin.zeroCells ((.agg #[.slice none 0 0, .int .i64 0]) : Value).cells (G - n)) 57) := ⟨_, rfl⟩
  have hown : W1.ownsRow w.heap.size 57 2 (.slice (some ⟨w.heap.size, 0, none⟩) 0 G) 0 [] := by
    rw [hW1]
    exact World.ownsRow_made w.drew _ G (Nat.le_refl _) hM (by simp [Builtin.zeroCells, Value.cells]; omega)
  have hsm : Same (fun _ => False) w W1 := by rw [hW1]; exact (Same.refl _ w).drew.alloc _
  rw [← hW1] at hr
  have HO := Lib.hid hown; have HS := Lib.hid hsm
  have h1 : ¬ ((n : Int) < 0) := by omega
  have h2 : 0 < (n : Int) := by omega
  have hG63 : G ≤ 9223372036854775807 := by unfold maxLen at hM; omega
  clear hW1 hown hsm hi0 hz hs hby i0 hGe
  go_enter Tryz.func111, Tryz.ntmps111
  go_wp2_with (at_builtin; refine Lib.wpList_append_run _ rfl _ _ _ _ rfl _ _ rfl rfl _ _ (hr _) ?_)
  go_ret
  exact ⟨_, _, rfl, HO.out, HS.out⟩

/-- What Concat hands back. -/
def Cati (w w' : World) (l : List En) (e : Ending) : Prop := ∃ g cap, e = .returned (.slice (some ⟨g, 0, none⟩) l.length cap) ∧ w'.ownsRow w.heap.size 57 2 (.slice (some ⟨g, 0, none⟩) l.length cap) l.length (entsV l) ∧ Same (fun _ => False) w w'

set_option maxHeartbeats 8000000 in
theorem concati {w : World} {sv : Value} {vs : List Value} {ls : List (List En)} (hv : ReadC w 61 sv vs) (hl : vs.length = ls.length) (hr : ∀ (j : Nat) (v : Value) (l : List En), vs[j]? = some v → ls[j]? = some l → ReadE w v l ∧ 0 < l.length)
    (h0 : 0 < vs.length) (hvn : vs.length ≤ 10) (hn : (flatV ls).length ≤ 100000) :
    Calls Tryz.prog 107 #[sv] w fun e w' => Cati w w' (flatV ls) e := by
  obtain ⟨qb, qo, qc, qcs, qfr, rfl, hq, _⟩ := hv.where h0
  have hlq := lt_of_block hq
  have hpos : 0 < (flatV ls).length := by
    obtain ⟨v, hv0⟩ : ∃ v, vs[0]? = some v := ⟨_, List.getElem?_eq_getElem h0⟩
    obtain ⟨l, hl0⟩ : ∃ l, ls[0]? = some l := ⟨_, List.getElem?_eq_getElem (by omega)⟩
    have h1 := (hr 0 v l hv0 hl0).2
    have h2 := flat_take hl0
    have h3 := flat_le ls 1
    rw [h2, List.length_append] at h3
    omega
  have HG := Lib.hid (growi (w := w) hpos (by omega))
  have HV := Lib.hid hv; have HL := Lib.hid hl; have HR := Lib.hid hr; have HN := Lib.hid hn; have HPOS := Lib.hid hpos
  clear hv hl hr hn hq hpos
  go_enter Tryz.func107, Tryz.ntmps107
  go_wp2_with fail
  go_loopg [3, 11] vs.length (fun rr sz vi wr => ∃ (j : Nat), j + rr = vs.length ∧ vi = .int .i64 j ∧ sz = .int .i64 (((flatV (ls.take j)).length : Nat) : Int) ∧ w = wr)
  case atStart => exact ⟨0, by omega, rfl, by simp [flatV], rfl⟩
  case round =>
    obtain ⟨j, hj, rfl, rfl, rfl⟩ := hrel
    by_cases hlast : j < vs.length
    · have hl' : (j : Int) < (vs.length : Int) := by omega
      have hvj : vs[j]? = some vs[j] := List.getElem?_eq_getElem hlast
      have hlj : ls[j]? = some (ls[j]'(by have := HL.out; omega)) := List.getElem?_eq_getElem _
      have hx := HV.out.cell hvj
      obtain ⟨hrd, hp⟩ := HR.out j _ _ hvj hlj
      obtain ⟨b, o, c, _, _, hve, _, _⟩ := ReadE.where hrd hp
      rw [hve] at hx
      have hft := flat_take hlj
      have hfl := flat_le ls (j + 1)
      have HFT := Lib.hid hft
      rw [hft, List.length_append] at hfl
      have hn := HN.out
      generalize hL2 : ls[j]'(by have := HL.out; omega) = l at *
      clear hvj hlj hrd hve hft hL2
      have hw : IntKind.i64.wrap ((((flatV (ls.take j)).length : Nat) : Int) + (l.length : Int)) = (((flatV (ls.take j)).length : Nat) : Int) + (l.length : Int) := by rw [IntKind.wrap_i64]; omega
      have hge : ¬ ((((flatV (ls.take j)).length : Nat) : Int) + (l.length : Int) < 0) := by omega
      generalize hsm : (flatV (ls.take j)).length = sm at *
      have HSM := Lib.hid hsm
      clear hsm
      go_wp2_with fail
      go_roundg (gk - 1)
      case measure => omega
      case rel => exact ⟨j + 1, by omega, by go_num, by rw [HFT.out, List.length_append, HSM.out]; rfl, rfl⟩
    · have hl' : ¬ (j : Int) < (vs.length : Int) := by omega
      have hjl : j = ls.length := by have := HL.out; omega
      subst hjl
      rw [List.take_length]
      have hjv : ¬ ((ls.length : Int) < (vs.length : Int)) := hl'
      go_wp2_with fail
      refine HG.out.mono ?_
      rintro e w1 ⟨g0, G0, rfl, ho, hs⟩
      have HO := Lib.hid ho; have HS := Lib.hid hs
      have hG0 := ho.lt g0 rfl
      clear ho hs hl' hjv
      go_wp2_with fail
      go_loopg [6, 27] vs.length (fun rr oo vi wr => ∃ (j : Nat), j + rr = vs.length ∧ vi = .int .i64 j ∧ (∃ g cap, oo = .slice (some ⟨g, 0, none⟩) (flatV (ls.take j)).length cap ∧ wr.ownsRow w.heap.size 57 2 (.slice (some ⟨g, 0, none⟩) (flatV (ls.take j)).length cap) (flatV (ls.take j)).length (entsV (flatV (ls.take j)))) ∧ Same (fun _ => False) w wr)
      case atStart => exact ⟨0, by omega, rfl, ⟨g0, G0, rfl, HO.out⟩, HS.out⟩
      case round =>
        obtain ⟨j, hj, rfl, ⟨g, cap, rfl, ho⟩, hs⟩ := hrel
        by_cases hlast : j < vs.length
        · have hl' : (j : Int) < (vs.length : Int) := by omega
          have hvj : vs[j]? = some vs[j] := List.getElem?_eq_getElem hlast
          have hlj : ls[j]? = some (ls[j]'(by have := HL.out; omega)) := List.getElem?_eq_getElem _
          have hx := (HV.out.kept hs (fun _ _ => id)).cell hvj
          obtain ⟨hrd, hp⟩ := HR.out j _ _ hvj hlj
          obtain ⟨b, o, c, _, _, hve, hbk, _⟩ := ReadE.where hrd hp
          have hlb := lt_of_block hbk
          rw [hve] at hx hrd
          have hft := flat_take hlj
          have hfl := flat_le ls (j + 1)
          have HFT := Lib.hid hft
          rw [hft, List.length_append] at hfl
          have hn := HN.out
          have hlqr : qb < wr.heap.size := by have := hs.size; omega
          generalize hL2 : ls[j]'(by have := HL.out; omega) = l at *
          have HC := Lib.hid (show ∀ q u, (entsV l)[q]? = some u → wr.cell? ((⟨b, o, none⟩ : Addr).add q) = some u from fun q u hq => by rw [Addr.add_lit]; exact ReadZ.cell (ReadZ.kept hrd hs (fun _ _ => id)) hq)
          have H1 := Lib.hid (ents_one l); have HO2 := Lib.hid ho; have HS2 := Lib.hid hs
          have HI := Lib.hid infoi
          have hsz : w.heap.size ≤ wr.heap.size := hs.size
          have hjb : (j : Int) < 11 := by omega
          clear hvj hlj hrd hve hft hL2 ho hs hbk
          go_wp2_with (at_builtin; obtain ⟨i0, hi, hz, hsz1, hby⟩ := HI.out; refine wpList_append_own (w := wr) rfl _ _ 61 rfl w.heap.size 57 i0 (.agg #[.slice none 0 0, .int .i64 0]) 2 32 rfl hi hz hsz1 hby rfl (by omega) (.slice (some ⟨g, 0, none⟩) (flatV (ls.take j)).length cap) (flatV (ls.take j)).length (entsV (flatV (ls.take j))) rfl HO2.out ⟨b, o, none⟩ l.length c (entsV l) rfl ?q1 HC.out H1.out ?q2 ?q3 hsz ?_)
          case q1 => rw [entsV_length]
          case q2 => unfold maxLen; omega
          case q3 => omega
          intro v' w2 hown hgrow hnil
          have hs2 : Same (fun _ => False) w w2 := HS2.out.grown hgrow (fun k hk h => by have := (HO2.out.lt k hk).1; omega)
          have hv' : ∃ g c, v' = .slice (some ⟨g, 0, none⟩) ((flatV (ls.take j)).length + l.length) c := by
            rcases hown.2 with ⟨rfl, h2⟩ | ⟨g, c, _, rfl, _⟩
            · omega
            · exact ⟨g, c, rfl⟩
          obtain ⟨g', c', rfl⟩ := hv'
          have HW := Lib.hid hown; have HS3 := Lib.hid hs2
          clear hown hgrow hnil hs2 hi hz hsz1 hby i0
          go_wp2_with fail
          go_roundg (gk - 1)
          case measure => omega
          case rel => exact ⟨j + 1, by omega, by go_num, ⟨g', c', by rw [HFT.out, List.length_append], by rw [HFT.out, List.length_append, entsV_append]; exact HW.out⟩, HS3.out⟩
        · have hl' : ¬ (j : Int) < (vs.length : Int) := by omega
          have hjl : j = ls.length := by have := HL.out; omega
          subst hjl
          rw [List.take_length] at ho ⊢
          have HO2 := Lib.hid ho; have HS2 := Lib.hid hs
          clear ho hs
          go_wp2_with fail
          go_ret
          exact ⟨_, _, rfl, HO2.out, HS2.out⟩

theorem growk {w : World} {n : Nat} (h0 : 0 < n) (hn : n ≤ 1000000) :
    Calls Tryz.prog 110 #[.slice none 0 0, .int .i64 n] w fun e w' => ∃ g G, e = .returned (.slice (some ⟨g, 0, none⟩) 0 G) ∧ w'.ownsRow w.heap.size 109 1 (.slice (some ⟨g, 0, none⟩) 0 G) 0 [] ∧ Same (fun _ => False) w w' := by
  obtain ⟨i0, hi0, hz, hs, hby⟩ := infok
  have hr := fun ty => Lib.run_append_nil_zeros (P := Tryz.prog) w 114 3 ty 109 i0 (.pointer none) .i64 .i64 (by kernel_rfl) (by kernel_rfl) hi0 hz n h0 (by omega) (by omega) (by rw [hby]; omega)
  have hG := grownCap_ge w n 0 109
  have hM := grownCap_le_maxLen w n 0 109 (by unfold maxLen; omega)
  generalize hGe : grownCap w n 0 109 = G at hr hG hM
  obtain ⟨W1, hW1⟩ : ∃ W1, W1 = w.drew.alloc (.cells (Builtin.zeroCells ((.pointer none) : Value).cells n ++ Builtin.zeroCells ((.pointer none) : Value).cells (G - n)) 109) := ⟨_, rfl⟩
  have hown : W1.ownsRow w.heap.size 109 1 (.slice (some ⟨w.heap.size, 0, none⟩) 0 G) 0 [] := by
    rw [hW1]
    exact World.ownsRow_made w.drew _ G (Nat.le_refl _) hM (by simp [Builtin.zeroCells, Value.cells]; omega)
  have hsm : Same (fun _ => False) w W1 := by rw [hW1]; exact (Same.refl _ w).drew.alloc _
  rw [← hW1] at hr
  have HO := Lib.hid hown; have HS := Lib.hid hsm
  have h1 : ¬ ((n : Int) < 0) := by omega
  have h2 : 0 < (n : Int) := by omega
  have hG63 : G ≤ 9223372036854775807 := by unfold maxLen at hM; omega
  clear hW1 hown hsm hi0 hz hs hby i0 hGe
  go_enter Tryz.func110, Tryz.ntmps110
  go_wp2_with (at_builtin; refine Lib.wpList_append_run _ rfl _ _ _ _ rfl _ _ rfl rfl _ _ (hr _) ?_)
  go_ret
  exact ⟨_, _, rfl, HO.out, HS.out⟩

/-- What Concat hands back. -/
def Catk (w w' : World) (l : List Value) (e : Ending) : Prop := ∃ g cap, e = .returned (.slice (some ⟨g, 0, none⟩) l.length cap) ∧ w'.ownsRow w.heap.size 109 1 (.slice (some ⟨g, 0, none⟩) l.length cap) l.length l ∧ Same (fun _ => False) w w'

set_option maxHeartbeats 8000000 in
theorem concatk {w : World} {sv : Value} {vs : List Value} {ls : List (List Value)} (hv : ReadC w 114 sv vs) (hl : vs.length = ls.length) (hr : ∀ (j : Nat) (v : Value) (l : List Value), vs[j]? = some v → ls[j]? = some l → ReadC w 109 v l ∧ 0 < l.length ∧ ∀ x ∈ l, x.oneCell' = true)
    (h0 : 0 < vs.length) (hvn : vs.length ≤ 10) (hn : (flatV ls).length ≤ 100000) :
    Calls Tryz.prog 106 #[sv] w fun e w' => Catk w w' (flatV ls) e := by
  obtain ⟨qb, qo, qc, qcs, qfr, rfl, hq, _⟩ := hv.where h0
  have hlq := lt_of_block hq
  have hpos : 0 < (flatV ls).length := by
    obtain ⟨v, hv0⟩ : ∃ v, vs[0]? = some v := ⟨_, List.getElem?_eq_getElem h0⟩
    obtain ⟨l, hl0⟩ : ∃ l, ls[0]? = some l := ⟨_, List.getElem?_eq_getElem (by omega)⟩
    have h1 := (hr 0 v l hv0 hl0).2.1
    have h2 := flat_take hl0
    have h3 := flat_le ls 1
    rw [h2, List.length_append] at h3
    omega
  have HG := Lib.hid (growk (w := w) hpos (by omega))
  have HV := Lib.hid hv; have HL := Lib.hid hl; have HR := Lib.hid hr; have HN := Lib.hid hn; have HPOS := Lib.hid hpos
  clear hv hl hr hn hq hpos
  go_enter Tryz.func106, Tryz.ntmps106
  go_wp2_with fail
  go_loopg [3, 11] vs.length (fun rr sz vi wr => ∃ (j : Nat), j + rr = vs.length ∧ vi = .int .i64 j ∧ sz = .int .i64 (((flatV (ls.take j)).length : Nat) : Int) ∧ w = wr)
  case atStart => exact ⟨0, by omega, rfl, by simp [flatV], rfl⟩
  case round =>
    obtain ⟨j, hj, rfl, rfl, rfl⟩ := hrel
    by_cases hlast : j < vs.length
    · have hl' : (j : Int) < (vs.length : Int) := by omega
      have hvj : vs[j]? = some vs[j] := List.getElem?_eq_getElem hlast
      have hlj : ls[j]? = some (ls[j]'(by have := HL.out; omega)) := List.getElem?_eq_getElem _
      have hx := HV.out.cell hvj
      obtain ⟨hrd, hp, h1⟩ := HR.out j _ _ hvj hlj
      obtain ⟨b, o, c, _, _, hve, _, _⟩ := hrd.where hp
      rw [hve] at hx
      have hft := flat_take hlj
      have hfl := flat_le ls (j + 1)
      have HFT := Lib.hid hft
      rw [hft, List.length_append] at hfl
      have hn := HN.out
      generalize hL2 : ls[j]'(by have := HL.out; omega) = l at *
      clear hvj hlj hrd hve hft hL2 h1
      have hw : IntKind.i64.wrap ((((flatV (ls.take j)).length : Nat) : Int) + (l.length : Int)) = (((flatV (ls.take j)).length : Nat) : Int) + (l.length : Int) := by rw [IntKind.wrap_i64]; omega
      have hge : ¬ ((((flatV (ls.take j)).length : Nat) : Int) + (l.length : Int) < 0) := by omega
      generalize hsm : (flatV (ls.take j)).length = sm at *
      have HSM := Lib.hid hsm
      clear hsm
      go_wp2_with fail
      go_roundg (gk - 1)
      case measure => omega
      case rel => exact ⟨j + 1, by omega, by go_num, by rw [HFT.out, List.length_append, HSM.out]; rfl, rfl⟩
    · have hl' : ¬ (j : Int) < (vs.length : Int) := by omega
      have hjl : j = ls.length := by have := HL.out; omega
      subst hjl
      rw [List.take_length]
      have hjv : ¬ ((ls.length : Int) < (vs.length : Int)) := hl'
      go_wp2_with fail
      refine HG.out.mono ?_
      rintro e w1 ⟨g0, G0, rfl, ho, hs⟩
      have HO := Lib.hid ho; have HS := Lib.hid hs
      have hG0 := ho.lt g0 rfl
      clear ho hs hl' hjv
      go_wp2_with fail
      go_loopg [6, 27] vs.length (fun rr oo vi wr => ∃ (j : Nat), j + rr = vs.length ∧ vi = .int .i64 j ∧ (∃ g cap, oo = .slice (some ⟨g, 0, none⟩) (flatV (ls.take j)).length cap ∧ wr.ownsRow w.heap.size 109 1 (.slice (some ⟨g, 0, none⟩) (flatV (ls.take j)).length cap) (flatV (ls.take j)).length (flatV (ls.take j))) ∧ Same (fun _ => False) w wr)
      case atStart => exact ⟨0, by omega, rfl, ⟨g0, G0, rfl, HO.out⟩, HS.out⟩
      case round =>
        obtain ⟨j, hj, rfl, ⟨g, cap, rfl, ho⟩, hs⟩ := hrel
        by_cases hlast : j < vs.length
        · have hl' : (j : Int) < (vs.length : Int) := by omega
          have hvj : vs[j]? = some vs[j] := List.getElem?_eq_getElem hlast
          have hlj : ls[j]? = some (ls[j]'(by have := HL.out; omega)) := List.getElem?_eq_getElem _
          have hx := (HV.out.kept hs (fun _ _ => id)).cell hvj
          obtain ⟨hrd, hp, h1⟩ := HR.out j _ _ hvj hlj
          obtain ⟨b, o, c, _, _, hve, hbk, _⟩ := hrd.where hp
          have hlb := lt_of_block hbk
          rw [hve] at hx hrd
          have hft := flat_take hlj
          have hfl := flat_le ls (j + 1)
          have HFT := Lib.hid hft
          rw [hft, List.length_append] at hfl
          have hn := HN.out
          have hlqr : qb < wr.heap.size := by have := hs.size; omega
          generalize hL2 : ls[j]'(by have := HL.out; omega) = l at *
          have HC := Lib.hid (show ∀ q u, l[q]? = some u → wr.cell? ((⟨b, o, none⟩ : Addr).add q) = some u from fun q u hq => by rw [Addr.add_lit]; exact (hrd.kept hs (fun _ _ => id)).cell hq)
          have H1 := Lib.hid h1; have HO2 := Lib.hid ho; have HS2 := Lib.hid hs
          have HI := Lib.hid infok
          have hsz : w.heap.size ≤ wr.heap.size := hs.size
          have hjb : (j : Int) < 11 := by omega
          clear hvj hlj hrd hve hft hL2 h1 ho hs hbk
          go_wp2_with (at_builtin; obtain ⟨i0, hi, hz, hsz1, hby⟩ := HI.out; refine wpList_append_own (w := wr) rfl _ _ 114 rfl w.heap.size 109 i0 (.pointer none) 1 8 rfl hi hz hsz1 hby rfl (by omega) (.slice (some ⟨g, 0, none⟩) (flatV (ls.take j)).length cap) (flatV (ls.take j)).length (flatV (ls.take j)) rfl HO2.out ⟨b, o, none⟩ l.length c l rfl ?q1 HC.out H1.out ?q2 ?q3 hsz ?_)
          case q1 => omega
          case q2 => unfold maxLen; omega
          case q3 => omega
          intro v' w2 hown hgrow hnil
          have hs2 : Same (fun _ => False) w w2 := HS2.out.grown hgrow (fun k hk h => by have := (HO2.out.lt k hk).1; omega)
          have hv' : ∃ g c, v' = .slice (some ⟨g, 0, none⟩) ((flatV (ls.take j)).length + l.length) c := by
            rcases hown.2 with ⟨rfl, h2⟩ | ⟨g, c, _, rfl, _⟩
            · omega
            · exact ⟨g, c, rfl⟩
          obtain ⟨g', c', rfl⟩ := hv'
          have HW := Lib.hid hown; have HS3 := Lib.hid hs2
          clear hown hgrow hnil hs2 hi hz hsz1 hby i0
          go_wp2_with fail
          go_roundg (gk - 1)
          case measure => omega
          case rel => exact ⟨j + 1, by omega, by go_num, ⟨g', c', by rw [HFT.out, List.length_append], by rw [HFT.out, List.length_append]; exact HW.out⟩, HS3.out⟩
        · have hl' : ¬ (j : Int) < (vs.length : Int) := by omega
          have hjl : j = ls.length := by have := HL.out; omega
          subst hjl
          rw [List.take_length] at ho ⊢
          have HO2 := Lib.hid ho; have HS2 := Lib.hid hs
          clear ho hs
          go_wp2_with fail
          go_ret
          exact ⟨_, _, rfl, HO2.out, HS2.out⟩

end Go.Proofs.YtgfmemggfbgjeaaGreatDoor
