/-
  tree's erased at a node of nodes; at whatever node. Conditions: few elements, a small count of writes.
-/
import Derived.Test.YtgfmemggfbgjeaaGreatDoorM20
namespace Go.Proofs.YtgfmemggfbgjeaaGreatDoor
open Go.RowKit Go.Extern.Stop Go.Stop Go.Extern Go.Lib
set_option maxRecDepth 1000000

/-- At the end of erased: the nodes are written as one. -/
theorem erase_end {w w3 w4 : World} {P : Nat → Prop} {h t g p n b lo hi d most : Nat} {r : Value} {c : Int} {K : List Kid} {L' : List En} (hs : Same (fun k => k = t) w w3) (ht : w3.heap[t]? = some (headObj r (c + d))) (ho : w3.ownsRow w.heap.size 109 1 (.slice (some ⟨g, 0, none⟩) n p) n (kidsV K)) (hn : K.length = n) (hP : ∀ k, w.heap.size ≤ k → P k) (h8 : n ≤ 8) (h0 : 0 < n) (hlo : lo ≤ n) (hhi : n ≤ hi)
    (hK : kidsL K = L') (hk : ∀ k ∈ K, 4 ≤ k.s ∧ NodeAt w3 P h k.b k.s k.L) (hb : w3.heap.size ≤ b) (hn4 : w4.heap[b]? = some (nodeObj (.slice none 0 0) (.slice (some ⟨g, 0, none⟩) n p) (kidsL K).length)) (hd : d + 1 ≤ most) (hh : w4.heap[t]? = some (headObj r (c + d + 1))) (hs2 : Same (fun k => k = t) w3 w4) :
    Back w w4 P (h + 1) t r c most lo hi L' (.returned (.pointer (some ⟨b, 0, none⟩))) := by
  subst hn
  exact back_inner hs ht ho hP h8 h0 hlo hhi hK hk hb hn4 hd hh hs2

theorem inner_of {w3 : World} {P : Nat → Prop} {h t g p n B : Nat} {r : Value} {c : Int} {K : List Kid} (ht : w3.heap[t]? = some (headObj r c)) (hc : 0 ≤ c ∧ c ≤ 1000000000) (ho : w3.ownsRow B 109 1 (.slice (some ⟨g, 0, none⟩) n p) n (kidsV K)) (hn : K.length = n) (h0 : 0 < n) (h8 : n ≤ 16) (hk : ∀ k ∈ K, 4 ≤ k.s ∧ NodeAt w3 P h k.b k.s k.L) (hL : (kidsL K).length ≤ 1000000) :
    Calls Tryz.prog 59 #[.pointer (some ⟨t, 0, none⟩), .slice (some ⟨g, 0, none⟩) n p] w3 fun e w' => ∃ b, e = .returned (.pointer (some ⟨b, 0, none⟩)) ∧ w3.heap.size ≤ b ∧ w'.heap[b]? = some (nodeObj (.slice none 0 0) (.slice (some ⟨g, 0, none⟩) n p) (kidsL K).length) ∧ w'.heap[t]? = some (headObj r (c + 1)) ∧ Same (fun k => k = t) w3 w' := by
  subst hn
  exact inner_any ht hc (ownsRow_read ho) h0 (by omega) (fun k hk' => (hk k hk').2.count) hL

theorem kids_pair {K : List Kid} {j : Nat} {x y : Kid} (hx : K[j]? = some x) (hy : K[j + 1]? = some y) : kidsL K = kidsL (K.take j) ++ ((x.L ++ y.L) ++ kidsL (K.drop (j + 2))) := by
  have h1 := kids_split hx
  have h2 : K.drop (j + 1) = y :: K.drop (j + 2) := by
    have hj : j + 1 < K.length := (List.getElem?_eq_some_iff.1 hy).1
    rw [List.drop_eq_getElem_cons hj, (List.getElem?_eq_some_iff.1 hy).2]
  rw [h1, h2, kidsL_cons, List.append_assoc]

theorem kidsV_get {K : List Kid} {j : Nat} {x : Kid} (h : K[j]? = some x) : (kidsV K)[j]? = some (.pointer (some ⟨x.b, 0, none⟩)) := by
  simp [kidsV, List.getElem?_map, h]

theorem StP.on {w w2 w3 : World} {P : Nat → Prop} {h t d g1 p1 : Nat} {r : Value} {c : Int} {K : List Kid} (hst : StP w w2 P h t r c d K g1 p1) (hs : Same (fun _ => False) w2 w3) : StP w w3 P h t r c d K g1 p1 :=
  ⟨hs.row hst.1 (fun _ _ h => h), fun k hk => (hst.2.1 k hk).keep hs (fun _ h => h.elim), hs.obj hst.2.2.1 id, hst.2.2.2.trans hs (fun _ _ h => h.elim)⟩

/-- The nodes but one are the old ones. -/
theorem set_old {ks : List Kid} {j : Nat} {y : Kid} {k : Kid} (h4 : ∀ k ∈ ks, 4 ≤ k.s) (hy : 4 ≤ y.s) (hk : k ∈ ks.set j y) : 4 ≤ k.s := by
  rcases List.mem_or_eq_of_mem_set hk with h | rfl
  · exact h4 k h
  · exact hy

theorem set_rest {ks : List Kid} {j m : Nat} {y : Kid} {k : Kid} (h4 : ∀ k ∈ ks, 4 ≤ k.s) (h1 : m ≤ j) (h2 : j < m + 2) (hk : k ∈ (ks.set j y).take m ++ (ks.set j y).drop (m + 2)) : 4 ≤ k.s := by
  rw [List.take_set_of_le h1, List.drop_set_of_lt h2] at hk
  rcases List.mem_append.1 hk with h | h
  · exact h4 k (List.mem_of_mem_take h)
  · exact h4 k (List.mem_of_mem_drop h)

set_option maxHeartbeats 8000000 in
theorem erase_inner {h : Nat} (IH : EraseAll h) : EraseAll (h + 1) := by
  intro w P t b s i r c L ht hc hn hs0 hs2 hi hL hP
  have hs2 := hs2 (by omega)
  obtain ⟨h8, _, hpb, kv, ks, hs, hb, hr, hkP, rfl, hk⟩ := hn
  subst hs
  have hlb := lt_of_block hb
  have hlt := lt_of_block ht
  have hlenV : (kidsV ks).length = ks.length := by simp
  obtain ⟨kb, ko, kc, kcs, kfr, rfl, hkb, hkc⟩ := hr.where (by omega)
  rw [hlenV] at hr hb hkP hkc
  obtain ⟨n0, n1, n2, nf⟩ := node_cells hb
  have hlkb := lt_of_block hkb
  have HD := Lib.hid (down_kids (i := i) hb hr (fun c hc => (hk c hc).2) hs0 h8 hL (by omega))
  have HT := Lib.hid ht; have HP := Lib.hid hP; have HR := Lib.hid hr; have HK := Lib.hid hk
  have hkn : ¬ ((ks.length : Int) = 0) := by omega
  clear ht hr hb hP hk hkP hkb n0 n2 nf hlenV
  go_enter Tryz.func71, Tryz.ntmps71
  go_wp2_with fail
  refine HD.out.mono ?_
  rintro e w0 ⟨rfl, j, p, x, rfl, hkj, hj, hip, _, hp⟩
  have HKJ := Lib.hid hkj
  have hjj : (j : Int) < (ks.length : Int) := by omega
  have HIP := Lib.hid hip
  have hpx := hp hi
  have hx := HR.out.cell (j := j) (x := .pointer (some ⟨x.b, 0, none⟩)) (by simp [hkj])
  have HCL := Lib.hid (clonek HR.out (by simpa using hs0) (by simp; omega) (kids_one ks))
  clear hkj hip hp
  go_wp2_with fail
  refine HCL.out.mono ?_
  rintro e w1 ⟨g1, p1, rfl, o1, s1⟩
  simp only [List.length_map] at o1
  have hA : StA w w1 ks g1 p1 := ⟨o1, s1⟩
  have hg := o1.lt g1 rfl
  have n1' := (World.cell?_of_block (a := ⟨b, 1, none⟩) (s1.block b hlb id)).trans n1
  have hx' := (World.cell?_of_block (a := ⟨kb, ko + j, none⟩) (s1.block kb hlkb id)).trans hx
  have hxm := List.mem_of_getElem? HKJ.out
  have hlb1 : b < w1.heap.size := by have := s1.size; omega
  have hlkb1 : kb < w1.heap.size := by have := s1.size; omega
  have HREC := Lib.hid (IH (i := p) (s1.obj HT.out id) ⟨hc.1, by have := hc.2; omega⟩ (node_on (HK.out x hxm).2 s1) (by have := (HK.out x hxm).1; omega) (fun _ => by have := (HK.out x hxm).1; omega) hpx (by have := kid_le hxm; omega) (fun k hk => Or.inr hk))
  have HA := Lib.hid hA
  clear o1 s1 hA n1 hx hxm
  go_wp2_with fail
  refine HREC.out.mono ?_
  rintro e w2 ⟨b2, s2, rfl, hlo, hhi, hn2, ⟨d, hd, hh⟩, hsw2⟩
  obtain ⟨q1, q2, q3, hst⟩ := put_kid HT.out HP.out (fun c hc => (HK.out c hc).2) HKJ.out HA.out hn2 hh hsw2
  clear hn2 hh hsw2
  go_upto_region 6 with fail
  generalize w2.setCell ⟨g1, j, none⟩ (.pointer (some ⟨b2, 0, none⟩)) = w3 at *
  clear q1 q2 q3
  have HST := Lib.hid hst
  obtain ⟨o3, hk3, hh3, hs3⟩ := hst
  have hx4 := (HK.out x (List.mem_of_getElem? HKJ.out)).1
  have hlK : (ks.set j ⟨b2, s2, x.L.take p ++ x.L.drop (p + 1)⟩).length = ks.length := List.length_set
  have hKj : (ks.set j ⟨b2, s2, x.L.take p ++ x.L.drop (p + 1)⟩)[j]? = some ⟨b2, s2, x.L.take p ++ x.L.drop (p + 1)⟩ := by simp [hj]
  have hKL : kidsL (ks.set j ⟨b2, s2, x.L.take p ++ x.L.drop (p + 1)⟩) = (kidsL ks).take i ++ (kidsL ks).drop (i + 1) := by
    rw [kidsL_set HKJ.out, HIP.out, kids_split HKJ.out, List.take_length_add_append, Nat.add_assoc, List.drop_length_add_append, List.take_append_of_le_length (by omega), List.drop_append_of_le_length (by omega)]
    simp
  have HSZ := Lib.hid (size_node (hk3 _ (List.mem_of_getElem? hKj)))
  obtain ⟨c1, c2, c3⟩ := row_cell (j := j) (u := .pointer (some ⟨b2, 0, none⟩)) o3 (kidsV_get hKj)
  rw [hlK] at o3
  have O3 := Lib.hid o3; have HK3 := Lib.hid hk3; have HH3 := Lib.hid hh3; have HS3 := Lib.hid hs3; have HLK := Lib.hid hlK; have HKL := Lib.hid hKL; have HKj := Lib.hid hKj
  clear o3 hk3 hh3 hs3 hlK hKL hKj
  generalize hK : ks.set j ⟨b2, s2, x.L.take p ++ x.L.drop (p + 1)⟩ = K at *
  have HKE := Lib.hid hK
  clear hK
  go_wp2_with fail
  refine HSZ.out.mono ?_
  rintro e w3' ⟨rfl, hsz⟩
  have hst' := HST.out.on hsz
  clear hsz c1 c2 c3 HST O3 HK3 HH3 HS3
  obtain ⟨o3, hk3, hh3, hs3⟩ := id hst'
  rw [HLK.out] at o3
  by_cases hs4 : s2 < 4
  · have hs4' : (s2 : Int) < 4 := by omega
    have hlen1 : (1 : Int) < (ks.length : Int) := by omega
    obtain ⟨m, hm⟩ : ∃ m, m = min j (ks.length - 2) := ⟨_, rfl⟩
    have hmi : min (j : Int) ((ks.length : Int) - 2) = (m : Int) := by omega
    have hw2 : IntKind.i64.wrap ((ks.length : Int) - 2) = (ks.length : Int) - 2 := by rw [IntKind.wrap_i64]; omega
    have hm1 : m + 1 < ks.length := by omega
    have hm2 : (m : Int) < (ks.length : Int) := by omega
    have hm3 : (m : Int) + 1 < (ks.length : Int) := by omega
    have hm4 : (m : Int) < 9 := by omega
    have hm5 : (0 : Int) ≤ (m : Int) + 1 := by omega
    have hm6 : ((m : Int) + 1).toNat = m + 1 := by omega
    have hm7 : IntKind.i64.wrap ((m : Int) + 1) = (m : Int) + 1 := by rw [IntKind.wrap_i64]; omega
    have hm8 : IntKind.i64.wrap ((m : Int) + 2) = (m : Int) + 2 := by rw [IntKind.wrap_i64]; omega
    have hmj1 : m ≤ j := by omega
    have hmj2 : j < m + 2 := by omega
    obtain ⟨x1, hx1⟩ : ∃ x1, K[m]? = some x1 := ⟨_, List.getElem?_eq_getElem (by rw [HLK.out]; omega)⟩
    obtain ⟨y1, hy1⟩ : ∃ y1, K[m + 1]? = some y1 := ⟨_, List.getElem?_eq_getElem (by rw [HLK.out]; omega)⟩
    obtain ⟨d1, d2, d3⟩ := row_cell (j := m) o3 (kidsV_get hx1)
    obtain ⟨e1, e2, e3⟩ := row_cell (j := m + 1) o3 (kidsV_get hy1)
    have hall : ∀ k ∈ K, k ∈ ks ∨ k = ⟨b2, s2, x.L.take p ++ x.L.drop (p + 1)⟩ := fun k hk => by rw [← HKE.out] at hk; exact List.mem_or_eq_of_mem_set hk
    have h3 : 3 ≤ s2 := by omega
    have hpos : ∀ k ∈ K, 3 ≤ k.s := fun k hk => by
      rcases hall k hk with h | rfl
      · have := (HK.out k h).1; omega
      · exact h3
    have hxl : x1.L.length + y1.L.length ≤ 100000 := by
      have h1 := kids_pair hx1 hy1
      have h2 : (kidsL K).length ≤ (kidsL ks).length := by rw [HKL.out, List.length_append, List.length_take, List.length_drop]; omega
      rw [h1, List.length_append, List.length_append, List.length_append] at h2
      omega
    have hst2 := hst'.on ((Same.refl (fun _ => False) w3').drew)
    have HJ := Lib.hid (erase_join HP.out ⟨hc.1, by have := hc.2; omega⟩ hst2 hx1 hy1 (by have := hpos x1 (List.mem_of_getElem? hx1); omega) (by have := hpos y1 (List.mem_of_getElem? hy1); omega) (by have := hpos x1 (List.mem_of_getElem? hx1); have := hpos y1 (List.mem_of_getElem? hy1); omega) hxl
      (fun k hk => by rw [← HKE.out] at hk; exact set_rest (fun k hk => (HK.out k hk).1) hmj1 hmj2 hk) hlt)
    have HPAIR := Lib.hid (kids_pair hx1 hy1)
    have HM1 := Lib.hid (show m < m + 2 by omega); have HM2 := Lib.hid (show m + 2 ≤ K.length by rw [HLK.out]; omega); have HM8 := Lib.hid (show K.length ≤ 8 by rw [HLK.out]; exact h8)
    have HMC := Lib.hid (show ((m + 2 : Nat) : Int) = (m : Int) + 2 by omega)
    clear hst' hst2 o3 hk3 hh3 hs3 hall hpos hxl hx1 hy1 d2 e2 hm
    go_upto_region 8 with fail
    generalize x1.b = xb at *
    generalize y1.b = yb at *
    go_region_with (first
      | (go_at_call 94; with_reducible refine HJ.out.mono ?_; rintro e w4 ⟨g2, p2, new, rfl, o1, o2, hne, hLN, hkk, hn1, hn2, ⟨d', hd', hh⟩, hs'⟩; have c2 := rep_C hlt HM1.out HM2.out HM8.out o1 o2 hne hLN hkk hn1 hn2 hd' hh hs'; rw [HLK.out, HMC.out] at c2; have C2 := Lib.hid c2; clear c2 o1 o2 hne hLN hkk hn1 hn2 hd' hh hs')
      | (go_at_call 81; with_reducible refine C2.out.mono ?_; rintro e w5 ⟨g3, p3, K', rfl, o3, hK', hk1, hk2, hkk, ⟨d2, hd2, hh⟩, hs5⟩; have O3 := Lib.hid o3; have HK' := Lib.hid hK'; have HKK := Lib.hid hkk; have HH3 := Lib.hid hh; have HS3 := Lib.hid hs5; clear o3 hK' hkk hh hs5))
    all_goals (
      have hKL' : kidsL K' = (kidsL ks).take i ++ (kidsL ks).drop (i + 1) := by rw [HK'.out, ← HPAIR.out, HKL.out]
      have hkl : (kidsL K').length ≤ 1000000 := by rw [hKL', List.length_append, List.length_take, List.length_drop]; omega
      have HIN2 := Lib.hid (inner_of HH3.out ⟨by omega, by have := hc.2; omega⟩ O3.out rfl (by omega) (by omega) HKK.out hkl)
      have HKL' := Lib.hid hKL'
      clear hKL' hkl
      go_wp2_with fail
      refine HIN2.out.mono ?_
      rintro e w6 ⟨b4, rfl, hb4, hn4, hh4, hs4⟩
      have hbk := erase_end (most := 3 * (h + 1) + 1) (lo := ks.length - 1) (hi := ks.length) HS3.out HH3.out O3.out rfl HP.out (by omega) (by omega) (by omega) (by omega) HKL'.out HKK.out hb4 hn4 (by omega) hh4 hs4
      have HBK := Lib.hid hbk
      clear hbk hb4 hn4 hh4 hs4
      go_wp2_with fail
      go_ret
      exact HBK.out)
  · have hs4' : ¬ (s2 : Int) < 4 := by omega
    have hkk : ∀ k ∈ K, 4 ≤ k.s ∧ NodeAt w3' P h k.b k.s k.L := fun k hkm => ⟨by rw [← HKE.out] at hkm; exact set_old (fun k hk => (HK.out k hk).1) (by show 4 ≤ s2; omega) hkm, (hk3 k hkm).mono (fun q _ h => h.1)⟩
    have hkl : (kidsL K).length ≤ 1000000 := by rw [HKL.out, List.length_append, List.length_take, List.length_drop]; omega
    have HIN := Lib.hid (inner_of hh3 ⟨by omega, by have := hc.2; omega⟩ o3 HLK.out hs0 (by omega) hkk hkl)
    have O3 := Lib.hid o3; have HH3 := Lib.hid hh3; have HS3 := Lib.hid hs3; have HKK := Lib.hid hkk
    clear hst' o3 hk3 hh3 hs3 hkk hkl
    go_wp2_with fail
    refine HIN.out.mono ?_
    rintro e w4 ⟨b4, rfl, hb4, hn4, hh4, hs4⟩
    have hbk := erase_end (most := 3 * (h + 1) + 1) (lo := ks.length - 1) (hi := ks.length) HS3.out HH3.out O3.out HLK.out HP.out h8 hs0 (by omega) (Nat.le_refl _) HKL.out HKK.out hb4 hn4 (by omega) hh4 hs4
    have HBK := Lib.hid hbk
    clear hbk hb4 hn4 hh4 hs4
    go_wp2_with fail
    go_ret
    exact HBK.out

theorem erase_any : ∀ h, EraseAll h
  | 0 => erase_leaf
  | h + 1 => erase_inner (erase_any h)

end Go.Proofs.YtgfmemggfbgjeaaGreatDoor
