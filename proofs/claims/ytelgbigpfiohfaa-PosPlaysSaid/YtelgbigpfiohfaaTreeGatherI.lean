/-
  tree's gathers at a node of nodes; at whatever node. Conditions: few elements.
-/
import Derived.Test.YtelgbigpfiohfaaTreeGather
namespace Go.Proofs.Ytelgbigpfiohfaa
open Go.RowKit Go.Extern.Stop Go.Stop Go.Extern Go.Lib
set_option maxRecDepth 1000000

theorem NodeAt.pos {w : World} {P : Nat → Prop} : ∀ {h b s : Nat} {L : List Int}, NodeAt w P h b s L → 0 < s → 0 < L.length
  | 0, b, s, L, ⟨e, _⟩, h0 => by omega
  | h + 1, b, s, L, ⟨h8, hs, _, k, ks, hl, _, _, _, e, hk⟩, h0 => by
    subst e
    match ks, hl, hk with
    | [], hl, _ => exact absurd hl (by simp; omega)
    | c :: ks, _, hk =>
      obtain ⟨h4, hn⟩ := hk c (List.mem_cons_self ..)
      have := NodeAt.pos hn (by omega)
      rw [kidsL_cons, List.length_append]
      omega

set_option maxHeartbeats 4000000 in
theorem gather_inner {h : Nat} (IH : GatherAll h) : GatherAll (h + 1) := by
  intro w B b s o L O f u hn hs0 hL hO ho hB f0 f1 u0 u1
  obtain ⟨h8, _, hpb, kv, ks, hs, hb, hr, hkP, rfl, hk⟩ := hn
  subst hs
  have hlb := lt_of_block hb
  have hlenV : (kidsV ks).length = ks.length := by simp
  obtain ⟨kb, ko, kc, kcs, kfr, rfl, hkb, hkc⟩ := hr.where (by omega)
  rw [hlenV] at hr hb hkP hkc
  obtain ⟨n0, n1, n2, nf⟩ := node_cells hb
  have hlkb := lt_of_block hkb
  have HO := Lib.hid ho; have HR := Lib.hid hr; have HK := Lib.hid hk; have HKP := Lib.hid (hkP kb rfl).1; have HL := Lib.hid hL
  have hkn : ¬ ((ks.length : Int) = 0) := by omega
  clear hr hb hk hkP hkb n0 n2 nf hlenV ho
  go_enter Try.func55, Try.ntmps55
  go_wp2_with fail
  go_loopg [1, 2, 3, 38] ks.length (fun rr oo ff uu vi wr => ∃ (j : Nat), j + rr = ks.length ∧ vi = .int .i64 j ∧ ff = .int .i64 (f - ((kidsL (ks.take j)).length : Int)) ∧ uu = .int .i64 (u - ((kidsL (ks.take j)).length : Int)) ∧ wr.ownsRow B 2 1 oo (O ++ kidsL (ks.take j)).length (intsV (O ++ kidsL (ks.take j))) ∧ Same (fun k => B ≤ k) w wr)
  case atStart => exact ⟨0, by omega, rfl, by simp [kidsL_nil], by simp [kidsL_nil], by simpa [kidsL_nil] using HO.out, Same.refl _ _⟩
  case round =>
    obtain ⟨j, hj, rfl, rfl, rfl, ho, hs⟩ := hrel
    have hle := kids_le ks j
    have HLE := Lib.hid hle
    by_cases hlast : j < ks.length
    · have hl' : (j : Int) < (ks.length : Int) := by omega
      have hkj : ks[j]? = some ks[j] := List.getElem?_eq_getElem hlast
      have hx := (HR.out.kept hs (fun k hk e => by
        have : kb = k := by simpa [Value.ownBlock] using hk
        have := HKP.out
        omega)).cell (j := j) (x := .pointer (some ⟨ks[j].b, 0, none⟩)) (by simp [hkj])
      obtain ⟨h4, hn4⟩ := HK.out ks[j] (List.getElem_mem _)
      have hn4' := hn4.keep hs (fun k hk => Or.inr (by omega))
      have hpos := hn4.pos (by omega)
      have hxB := hn4.at
      obtain ⟨lk, kk, hcd⟩ := hn4'.count
      obtain ⟨_, _, m2, _⟩ := node_cells hcd
      have hlc := lt_of_block hcd
      have hlkb' : kb < wr.heap.size := by have := hs.size; omega
      have hsum := kids_take hkj
      have hle1 := kids_le ks (j + 1)
      have hsp := kids_split hkj
      have hIH := IH (o := u1) (O := O ++ kidsL (ks.take j)) (f := f - ((kidsL (ks.take j)).length : Int)) (u := u - ((kidsL (ks.take j)).length : Int)) hn4' (by omega) (by have := HL.out; omega) (by rw [List.length_append]; omega) ho (by have := hs.size; omega) (by omega) (by omega) (by omega) (by omega)
      have HIH := Lib.hid hIH; have HS := Lib.hid hs; have HSUM := Lib.hid hsum; have HLE1 := Lib.hid hle1
      have hap : O ++ kidsL (ks.take (j + 1)) = (O ++ kidsL (ks.take j)) ++ ks[j].L := by
        rw [List.take_add_one, hkj, List.append_assoc, kidsL_append]
        simp [kidsL_cons, kidsL_nil]
      have HAP := Lib.hid hap
      have c1 : f - ((kidsL (ks.take j)).length : Int) < (ks[j].L.length : Int) := by omega
      have c2 : 0 < u - ((kidsL (ks.take j)).length : Int) := by have : (kidsL ks).length = (kidsL (ks.take j)).length + (ks[j].L.length + (kidsL (ks.drop (j + 1))).length) := by rw [hsp, List.length_append, List.length_append]
                                                                 omega
      have c3 : IntKind.i64.wrap (f - ((kidsL (ks.take j)).length : Int) - (ks[j].L.length : Int)) = f - ((kidsL (ks.take j)).length : Int) - (ks[j].L.length : Int) := by rw [IntKind.wrap_i64]; omega
      have c4 : IntKind.i64.wrap (u - ((kidsL (ks.take j)).length : Int) - (ks[j].L.length : Int)) = u - ((kidsL (ks.take j)).length : Int) - (ks[j].L.length : Int) := by rw [IntKind.wrap_i64]; omega
      have hjb : (j : Int) < 9 := by omega
      clear hkj hn4 hn4' hcd hsum hle1 hsp hIH ho hs hap hle
      generalize hA : ks[j] = x at *
      clear hA
      go_wp2_with fail
      refine HIH.out.mono ?_
      rintro e w2 ⟨v, rfl, ho2, hs2⟩
      have m2' : w2.cell? ⟨x.b, 2, none⟩ = some (.int .i64 x.L.length) := (World.cell?_of_block (a := ⟨x.b, 2, none⟩) (hs2.block x.b hlc (by omega))).trans m2
      have hlc2 : x.b < w2.heap.size := by have := hs2.size; omega
      have HO2 := Lib.hid ho2; have HS2 := Lib.hid hs2
      clear ho2 hs2
      go_wp2_with fail
      go_roundg (gk - 1)
      case measure => omega
      case rel => exact ⟨j + 1, by omega, by go_num, by rw [HSUM.out]; congr 1; omega, by rw [HSUM.out]; congr 1; omega, by rw [HAP.out]; exact HO2.out, HS.out.trans HS2.out (fun _ _ h => h)⟩
    · have hl' : ¬ (j : Int) < (ks.length : Int) := by omega
      have hjl : j = ks.length := by omega
      subst hjl
      rw [List.take_length] at ho
      have HO2 := Lib.hid ho; have HS := Lib.hid hs
      clear ho hs hle
      go_wp2_with fail
      go_ret
      exact ⟨_, rfl, HO2.out, HS.out⟩

theorem gather_any : ∀ h, GatherAll h
  | 0 => gather_leaf
  | h + 1 => gather_inner (gather_any h)

end Go.Proofs.Ytelgbigpfiohfaa
