/-
  tree's gathers at a node of nodes; at whatever node. Conditions: few elements. slices.Delete of one entry in a row of the call's own. Conditions: the row isn't long.
-/
import Derived.Test.YtgfmemggfbgjeaaGreatDoorM16
import Derived.Deep.RegionLaw
namespace Go.Proofs.YtgfmemggfbgjeaaGreatDoor
open Go.RowKit Go.Extern.Stop Go.Stop Go.Extern Go.Lib
set_option maxRecDepth 1000000

theorem NodeAt.pos {w : World} {P : Nat → Prop} : ∀ {h b s : Nat} {L : List En}, NodeAt w P h b s L → 0 < s → 0 < L.length
  | 0, b, s, L, ⟨e, _⟩, h0 => by omega
  | h + 1, b, s, L, ⟨h8, hs, _, k, ks, hl, _, _, _, e, hk⟩, h0 => by
    subst e
    match ks, hl, hk with
    | [], hl, _ => exact absurd hl (by simp; omega)
    | c :: ks, _, hk =>
      obtain ⟨h4, hn⟩ := hk c (List.mem_cons_self ..)
      have := NodeAt.pos hn (by omega)
      rw [kidsL_cons, List.length_append]
      omega

set_option maxHeartbeats 4000000 in
theorem gather_inner {h : Nat} (IH : GatherAll h) : GatherAll (h + 1) := by
  intro w B b s o L O f u hn hs0 hL hO ho hB f0 f1 u0 u1
  obtain ⟨h8, _, hpb, kv, ks, hs, hb, hr, hkP, rfl, hk⟩ := hn
  subst hs
  have hlb := lt_of_block hb
  have hlenV : (kidsV ks).length = ks.length := by simp
  obtain ⟨kb, ko, kc, kcs, kfr, rfl, hkb, hkc⟩ := hr.where (by omega)
  rw [hlenV] at hr hb hkP hkc
  obtain ⟨n0, n1, n2, nf⟩ := node_cells hb
  have hlkb := lt_of_block hkb
  have HO := Lib.hid ho; have HR := Lib.hid hr; have HK := Lib.hid hk; have HKP := Lib.hid (hkP kb rfl).1; have HL := Lib.hid hL
  have hkn : ¬ ((ks.length : Int) = 0) := by omega
  clear hr hb hk hkP hkb n0 n2 nf hlenV ho
  go_enter Tryz.func69, Tryz.ntmps69
  go_wp2_with fail
  go_loopg [1, 2, 3, 38] ks.length (fun rr oo ff uu vi wr => ∃ (j : Nat), j + rr = ks.length ∧ vi = .int .i64 j ∧ ff = .int .i64 (f - ((kidsL (ks.take j)).length : Int)) ∧ uu = .int .i64 (u - ((kidsL (ks.take j)).length : Int)) ∧ wr.ownsRow B 57 2 oo (O ++ kidsL (ks.take j)).length (entsV (O ++ kidsL (ks.take j))) ∧ Same (fun k => B ≤ k) w wr)
  case atStart => exact ⟨0, by omega, rfl, by simp [kidsL_nil], by simp [kidsL_nil], by simpa [kidsL_nil] using HO.out, Same.refl _ _⟩
  case round =>
    obtain ⟨j, hj, rfl, rfl, rfl, ho, hs⟩ := hrel
    have hle := kids_le ks j
    have HLE := Lib.hid hle
    by_cases hlast : j < ks.length
    · have hl' : (j : Int) < (ks.length : Int) := by omega
      have hkj : ks[j]? = some ks[j] := List.getElem?_eq_getElem hlast
      have hx := (HR.out.kept hs (fun k hk e => by
        have : kb = k := by simpa [Value.ownBlock] using hk
        have := HKP.out
        omega)).cell (j := j) (x := .pointer (some ⟨ks[j].b, 0, none⟩)) (by simp [hkj])
      obtain ⟨h4, hn4⟩ := HK.out ks[j] (List.getElem_mem _)
      have hn4' := hn4.keep hs (fun k hk => Or.inr (by omega))
      have hpos := hn4.pos (by omega)
      have hxB := hn4.at
      obtain ⟨lk, kk, hcd⟩ := hn4'.count
      obtain ⟨_, _, m2, _⟩ := node_cells hcd
      have hlc := lt_of_block hcd
      have hlkb' : kb < wr.heap.size := by have := hs.size; omega
      have hsum := kids_take hkj
      have hle1 := kids_le ks (j + 1)
      have hsp := kids_split hkj
      have hIH := IH (o := u1) (O := O ++ kidsL (ks.take j)) (f := f - ((kidsL (ks.take j)).length : Int)) (u := u - ((kidsL (ks.take j)).length : Int)) hn4' (by omega) (by have := HL.out; omega) (by rw [List.length_append]; omega) ho (by have := hs.size; omega) (by omega) (by omega) (by omega) (by omega)
      have HIH := Lib.hid hIH; have HS := Lib.hid hs; have HSUM := Lib.hid hsum; have HLE1 := Lib.hid hle1
      have hap : O ++ kidsL (ks.take (j + 1)) = (O ++ kidsL (ks.take j)) ++ ks[j].L := by
        rw [List.take_add_one, hkj, List.append_assoc, kidsL_append]
        simp [kidsL_cons, kidsL_nil]
      have HAP := Lib.hid hap
      have c1 : f - ((kidsL (ks.take j)).length : Int) < (ks[j].L.length : Int) := by omega
      have c2 : 0 < u - ((kidsL (ks.take j)).length : Int) := by have : (kidsL ks).length = (kidsL (ks.take j)).length + (ks[j].L.length + (kidsL (ks.drop (j + 1))).length) := by rw [hsp, List.length_append, List.length_append]
                                                                 omega
      have c3 : IntKind.i64.wrap (f - ((kidsL (ks.take j)).length : Int) - (ks[j].L.length : Int)) = f - ((kidsL (ks.take j)).length : Int) - (ks[j].L.length : Int) := by rw [IntKind.wrap_i64]; omega
      have c4 : IntKind.i64.wrap (u - ((kidsL (ks.take j)).length : Int) - (ks[j].L.length : Int)) = u - ((kidsL (ks.take j)).length : Int) - (ks[j].L.length : Int) := by rw [IntKind.wrap_i64]; omega
      have hjb : (j : Int) < 9 := by omega
      clear hkj hn4 hn4' hcd hsum hle1 hsp hIH ho hs hap hle
      generalize hA : ks[j] = x at *
      clear hA
      go_wp2_with fail
      refine HIH.out.mono ?_
      rintro e w2 ⟨v, rfl, ho2, hs2⟩
      have m2' : w2.cell? ⟨x.b, 2, none⟩ = some (.int .i64 x.L.length) := (World.cell?_of_block (a := ⟨x.b, 2, none⟩) (hs2.block x.b hlc (by omega))).trans m2
      have hlc2 : x.b < w2.heap.size := by have := hs2.size; omega
      have HO2 := Lib.hid ho2; have HS2 := Lib.hid hs2
      clear ho2 hs2
      go_wp2_with fail
      go_roundg (gk - 1)
      case measure => omega
      case rel => exact ⟨j + 1, by omega, by go_num, by rw [HSUM.out]; congr 1; omega, by rw [HSUM.out]; congr 1; omega, by rw [HAP.out]; exact HO2.out, HS.out.trans HS2.out (fun _ _ h => h)⟩
    · have hl' : ¬ (j : Int) < (ks.length : Int) := by omega
      have hjl : j = ks.length := by omega
      subst hjl
      rw [List.take_length] at ho
      have HO2 := Lib.hid ho; have HS := Lib.hid hs
      clear ho hs hle
      go_wp2_with fail
      go_ret
      exact ⟨_, rfl, HO2.out, HS.out⟩

theorem gather_any : ∀ h, GatherAll h
  | 0 => gather_leaf
  | h + 1 => gather_inner (gather_any h)

end Go.Proofs.YtgfmemggfbgjeaaGreatDoor

namespace Go.Proofs.YtgfmemggfbgjeaaGreatDoor
open Go.RowKit Go.Extern.Stop Go.Stop Go.Extern Go.Lib
set_option maxRecDepth 1000000

theorem int_zero (w : World) : (zeroValue 57).run Tryz.prog w = .ok (.agg #[.slice none 0 0, .int .i64 0]) w := by
  obtain ⟨i, hi, hz, _⟩ := infoi
  simp [zeroValue, typeInfo, hi, hz]

/-- 'clear' of one element of two cells. -/
theorem cleari {w : World} {g : Nat} {cs : List Value} (hg : w.heap[g]? = some (.cells cs.toArray 57 (0, 0))) {o c : Nat} (ho : o + 2 ≤ cs.length) (ty : TypeId) :
    (Builtin.clear_ #[61] ty #[.slice (some ⟨g, o, none⟩) 1 c]).run Tryz.prog w = .ok (.tuple #[]) (w.setCells g o [.slice none 0 0, .int .i64 0]) := by
  have hu : ∀ w, (underlying 61).run Tryz.prog w = .ok (.slice 57) w := run_underlying (by kernel_rfl)
  have hst := run_storeCells_cells (P := Tryz.prog) g o [.slice none 0 0, .int .i64 0] 0 w (fun j hj => by simp only [World.cell?, hg]; simp at hj ⊢; omega) (fun j hj => by simp [World.frozen?, hg]) (fun v hv => by simp at hv; rcases hv with rfl | rfl <;> rfl)
  simp only [Nat.add_zero] at hst
  have hzc : (Builtin.zeroCells (.agg #[.slice none 0 0, .int .i64 0] : Value).cells 1).toList = [.slice none 0 0, .int .i64 0] := by
    apply List.ext_getElem
    · simp [Builtin.zeroCells, Value.cells]
    · intro i h1 h2
      match i, h2 with
      | 0, _ => simp [Builtin.zeroCells, Value.cells]
      | 1, _ => simp [Builtin.zeroCells, Value.cells]
  simp [Builtin.clear_, hu, hzc, hst]

set_option maxHeartbeats 4000000 in
theorem delete_any {w : World} {B g n i cap : Nat} {xs : List Value} (ho : w.ownsRow B 57 2 (.slice (some ⟨g, 0, none⟩) n cap) n xs) (hn : n ≤ 100000) (hi : i < n) (h1 : ∀ x ∈ xs, x.oneCell' = true) :
    Calls Tryz.prog 92 #[.slice (some ⟨g, 0, none⟩) n cap, .int .i64 i, .int .i64 ((i : Int) + 1)] w fun e w' => TurnedE w w' B g (n - 1) e (xs.take (i * 2) ++ xs.drop ((i + 1) * 2)) := by
  obtain ⟨hBg, hnc, hcm, hxl, cs, hcl, hct, hg⟩ := ownsRow_open2 ho
  have hc63 : cap ≤ 9223372036854775807 := by unfold maxLen at hcm; omega
  have hdl : (xs.drop ((i + 1) * 2)).length = (n - (i + 1)) * 2 := by rw [List.length_drop, hxl]; omega
  have hxs : ∀ q u, (xs.drop ((i + 1) * 2))[q]? = some u → w.drew.cell? ((⟨g, (i + 1) * 2, none⟩ : Addr).add q) = some u := fun q u hq => by
    refine cells_read (w := w.drew) hg ((i + 1) * 2) q u ?_
    rw [List.getElem?_drop] at hq ⊢
    rw [← hct, List.getElem?_take] at hq
    split at hq
    · exact hq
    · cases hq
  obtain ⟨A, hA, hsrc⟩ : ∃ A : Addr, (if cap = i + 1 then some (⟨g, 0, none⟩ : Addr) else some ⟨g, (i + 1) * 2, none⟩) = some A ∧ Hid (∀ q u, (xs.drop ((i + 1) * 2))[q]? = some u → w.drew.cell? (A.add q) = some u) := by
    by_cases h : cap = i + 1
    · refine ⟨⟨g, 0, none⟩, by simp [h], fun q u hq => ?_⟩
      have h0 : (xs.drop ((i + 1) * 2)).length = 0 := by rw [hdl]; omega
      rw [List.length_eq_zero_iff.1 h0] at hq
      simp at hq
    · exact ⟨⟨g, (i + 1) * 2, none⟩, by simp [h], hxs⟩
  have s1 : Hid ((xs.drop ((i + 1) * 2)).length = (n - (i + 1)) * 2) := hdl
  have s2 : Hid (∀ u ∈ xs.drop ((i + 1) * 2), u.oneCell' = true) := fun u hu => h1 u (List.mem_of_mem_drop hu)
  have s3 : Hid (∀ q, q < (xs.drop ((i + 1) * 2)).length → (w.drew.cell? ⟨g, 0 + i * 2 + q, none⟩).isSome = true ∧ w.drew.frozen? ⟨g, 0 + i * 2 + q, none⟩ = false) := fun q hq => by
    rw [hdl] at hq
    exact ⟨by show (w.cell? _).isSome = true; simp only [World.cell?, hg]; simp; omega, by show w.frozen? _ = false; simp [World.frozen?, hg]⟩
  have hg1 : (w.drew.setCells g (0 + i * 2) (xs.drop ((i + 1) * 2))).heap[g]? = some (.cells (spl cs (0 + i * 2) (xs.drop ((i + 1) * 2))).toArray 57 (0, 0)) := setCells_row _ _ _ _ hg (by omega)
  have hl1 : (spl cs (0 + i * 2) (xs.drop ((i + 1) * 2))).length = cap * 2 := by rw [spl_length (by omega), hcl]
  have hs1 : Same (fun k => k = g) w (w.drew.setCells g (0 + i * 2) (xs.drop ((i + 1) * 2))) := ((Same.refl (fun k => k = g) w).drew).setCells (fun _ => rfl) _ _
  have ht1 : (spl cs (0 + i * 2) (xs.drop ((i + 1) * 2))).take ((n - 1) * 2) = xs.take (i * 2) ++ xs.drop ((i + 1) * 2) := by
    have e2 : xs.take (i * 2) = cs.take (i * 2) := by rw [← hct, List.take_take]; congr 1; omega
    have e1 : (cs.take (i * 2)).length = i * 2 := by rw [List.length_take]; omega
    rw [show 0 + i * 2 = i * 2 by omega, spl, List.take_append_of_le_length (by rw [List.length_append]; omega), List.take_of_length_le (by rw [List.length_append]; omega), e2]
  obtain ⟨W1, hW1⟩ : ∃ W1, W1 = w.drew.setCells g (0 + i * 2) (xs.drop ((i + 1) * 2)) := ⟨_, rfl⟩
  rw [← hW1] at hg1 hs1
  have hcl2 := fun ty => cleari hg1 (o := (n - 1) * 2) (c := cap - (n - 1)) (by omega) ty
  have hend : (W1.setCells g ((n - 1) * 2) [.slice none 0 0, .int .i64 0]).ownsRow B 57 2 (.slice (some ⟨g, 0, none⟩) (n - 1) cap) (n - 1) (xs.take (i * 2) ++ xs.drop ((i + 1) * 2)) := by
    refine ownsRow_shut2 hBg (by omega) hcm ?_ ?_ (setCells_row _ _ _ _ hg1 (by rw [hl1]; simp; omega))
    · rw [spl_length (by rw [hl1]; simp; omega), hl1]
    · rw [← ht1]
      conv => lhs; rw [spl, List.append_assoc]
      rw [List.take_append_of_le_length (by rw [List.length_take]; omega), List.take_take, Nat.min_self]
  have HE := Lib.hid hend; have HS := Lib.hid (hs1.setCells (fun _ => rfl) ((n - 1) * 2) [.slice none 0 0, .int .i64 0])
  have HW1 := Lib.hid hW1
  obtain ⟨i0, hi0, hz0, hz1, hby⟩ := infoi
  have hin : i ≤ n := by omega
  have hii : (i : Int) + 1 ≤ (n : Int) := by omega
  have hne : ¬ ((i : Int) = (i : Int) + 1) := by omega
  have hic : i ≤ cap := by omega
  have hn1 : i + 1 ≤ n := by omega
  have hlen : i + (n - (i + 1)) = n - 1 := by omega
  have hb2 : ¬ (cap = n - 1) := by omega
  have hn9 : n - (n - 1) = 1 := by omega
  have hnn : (0 : Int) ≤ (i : Int) + 1 := by omega
  have htn : ((i : Int) + 1).toNat = i + 1 := by omega
  have hn8 : n - 1 ≤ n := by omega
  have hn7 : ((n - 1 : Nat) : Int) ≤ (n : Int) := by omega
  have hn6 : n ≤ cap := hnc
  clear ho hg hct hxs hg1 hs1 hW1 hend ht1 hl1 hdl hxl hcl
  go_enter Tryz.func92, Tryz.ntmps92
  go_wp2_with fail
  go_region_law (refine step_append_room rfl (.tmp 22) (.tmp 25) 61 rfl 57 i0 2 (by kernel_rfl) hi0 hz1 g 0 i cap (by simp [Act.eval, Act.put]) A (n - (i + 1)) (cap - (i + 1)) (xs.drop ((i + 1) * 2)) (by simp [Act.eval, Act.put]) s1.out hsrc.out s2.out (by omega) s3.out ?_; rw [← HW1.out])
  go_wp2_with fail
  go_ret
  exact ⟨_, _, rfl, HE.out, HS.out⟩

end Go.Proofs.YtgfmemggfbgjeaaGreatDoor
