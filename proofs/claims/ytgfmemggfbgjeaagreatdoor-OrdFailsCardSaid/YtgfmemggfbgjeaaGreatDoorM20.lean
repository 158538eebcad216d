/-
  tree's erased: a node with one element less. Conditions: few elements, a small count of writes.
-/
import Derived.Test.YtgfmemggfbgjeaaGreatDoorM19
namespace Go.Proofs.YtgfmemggfbgjeaaGreatDoor
open Go.RowKit Go.Extern.Stop Go.Stop Go.Extern Go.Lib
set_option maxRecDepth 1000000

theorem joined_any {w : World} {P : Nat → Prop} {t a b sa sb h : Nat} {r : Value} {c : Int} {LA LC : List En} (ht : w.heap[t]? = some (headObj r c)) (hc : 0 ≤ c ∧ c ≤ 800000000) (ha : NodeAt w P h a sa LA) (hb : NodeAt w P h b sb LC) (ha0 : 0 < sa) (hb0 : 0 < sb) (hP : ∀ k, w.heap.size ≤ k → P k) (hLL : LA.length + LC.length ≤ 100000) :
    Calls Tryz.prog 94 #[.pointer (some ⟨t, 0, none⟩), .pointer (some ⟨a, 0, none⟩), .pointer (some ⟨b, 0, none⟩)] w fun e w' => Joins w w' P h (sa + sb) t r c (LA ++ LC) e := by
  cases h with
  | zero => exact joined_leaf ht hc ha hb ha0 hb0 hP
  | succ h => exact joined_inner ht hc ha hb ha0 hb0 hP hLL

theorem size_node {w : World} {P : Nat → Prop} {h b s : Nat} {L : List En} (hn : NodeAt w P h b s L) : Calls Tryz.prog 93 #[.pointer (some ⟨b, 0, none⟩)] w fun e w' => e = .returned (.int .i64 s) ∧ Same (fun _ => False) w w' := by
  cases h with
  | zero =>
    obtain ⟨e, h8, _, l, hb, hr, _⟩ := hn
    subst e
    obtain ⟨ao, cap, rfl, _⟩ := ReadE.shape hr
    refine (size_any hb (by omega) (by omega)).mono ?_
    rintro e w' ⟨rfl, hs⟩
    exact ⟨by simp, hs⟩
  | succ h =>
    obtain ⟨h8, _, _, k, ks, e, hb, hr, _⟩ := hn
    subst e
    obtain ⟨ao, cap, rfl, _, _⟩ := hr
    refine (size_any hb (by omega) (by simp; omega)).mono ?_
    rintro e w' ⟨rfl, hs⟩
    exact ⟨by simp, hs⟩

/-- What erased is to do at nodes of height h. -/
def EraseAll (h : Nat) : Prop := ∀ {w : World} {P : Nat → Prop} {t b s i : Nat} {r : Value} {c : Int} {L : List En}, w.heap[t]? = some (headObj r c) → 0 ≤ c ∧ c + (3 * h + 1) ≤ 800000000 → NodeAt w P h b s L → 0 < s → (h ≠ 0 → 2 ≤ s) → i < L.length → L.length ≤ 100000 → (∀ k, w.heap.size ≤ k → P k) →
    Calls Tryz.prog 71 #[.pointer (some ⟨t, 0, none⟩), .pointer (some ⟨b, 0, none⟩), .int .i64 i] w fun e w' => Back w w' P h t r c (3 * h + 1) (s - 1) s (L.take i ++ L.drop (i + 1)) e

theorem entsV_erase (L : List En) (i : Nat) : (entsV L).take (i * 2) ++ (entsV L).drop ((i + 1) * 2) = entsV (L.take i ++ L.drop (i + 1)) := by
  rw [entsV_append, entsV_take, entsV_drop]

set_option maxHeartbeats 4000000 in
theorem erase_leaf : EraseAll 0 := by
  intro w P t b s i r c L ht hc hn hs0 _ hi _ hP
  obtain ⟨hs, h8, hpb, l, hb, hr, hlP⟩ := hn
  subst hs
  obtain ⟨n0, n1, n2, nf⟩ := node_cells hb
  have hlb := lt_of_block hb
  have hlt := lt_of_block ht
  have HCL := Lib.hid (clonei hr (by simpa using hs0) (by omega))
  have HT := Lib.hid ht; have HP := Lib.hid hP
  have hw : IntKind.i64.wrap ((i : Int) + 1) = (i : Int) + 1 := by rw [IntKind.wrap_i64]; omega
  have hi9 : (i : Int) < 9 := by omega
  clear hr ht hb hP hlP n2 nf
  go_enter Tryz.func71, Tryz.ntmps71
  go_wp2_with fail
  refine HCL.out.mono ?_
  rintro e w1 ⟨g1, p1, rfl, o1, s1⟩
  have hg1 := o1.lt g1 rfl
  have HDEL := Lib.hid (delete_any o1 (by omega) hi (ents_one L))
  have S1 := Lib.hid s1
  clear o1 s1
  go_wp2_with fail
  refine HDEL.out.mono ?_
  rintro e w2 ⟨g2, p2, rfl, o2, s2⟩
  rw [entsV_erase] at o2
  have hlen : (L.take i ++ L.drop (i + 1)).length = L.length - 1 := by rw [List.length_append, List.length_take, List.length_drop]; omega
  have hs12 : Same (fun k => k = t) w w2 := (S1.out.weaken (fun _ _ h => h.elim)).trans s2 (fun k hk e => by omega)
  have h2 : w2.heap[t]? = some (headObj r c) := s2.obj (S1.out.obj HT.out id) (fun e => by omega)
  have HLF := Lib.hid (leaf_any (lo := some ⟨g2, 0, none⟩) (n := L.length - 1) (cap := p2) h2 ⟨hc.1, by omega⟩)
  have O2 := Lib.hid o2; have S2 := Lib.hid hs12; have H2 := Lib.hid h2; have HLN := Lib.hid hlen
  clear o2 s2 hs12 h2 hlen
  go_wp2_with fail
  refine HLF.out.mono ?_
  rintro e w3 ⟨b3, rfl, hb3, hn3, hh3, hs3⟩
  have hbk := back_leaf (lo := L.length - 1) (hi := L.length) (L' := L.take i ++ L.drop (i + 1)) S2.out H2.out O2.out HP.out (by rw [HLN.out]; omega) (by rw [HLN.out]; omega) (by rw [HLN.out]; omega) hb3 hn3 hh3 hs3
  have HBK := Lib.hid hbk
  clear hbk hb3 hn3 hh3 hs3
  go_wp2_with fail
  go_ret
  exact HBK.out

theorem erase_join {w w3 : World} {P : Nat → Prop} {h t d j g1 p1 : Nat} {r : Value} {c : Int} {K : List Kid} {x y : Kid} (hP : ∀ k, w.heap.size ≤ k → P k) (hc : 0 ≤ c ∧ c + d ≤ 800000000) (hst : StP w w3 P h t r c d K g1 p1) (hx : K[j]? = some x) (hy : K[j + 1]? = some y) (hx0 : 0 < x.s) (hy0 : 0 < y.s) (h7 : 4 ≤ x.s + y.s) (hL : x.L.length + y.L.length ≤ 100000)
    (h4 : ∀ k ∈ K.take j ++ K.drop (j + 2), 4 ≤ k.s) (hlt : t < w.heap.size) :
    Calls Tryz.prog 94 #[.pointer (some ⟨t, 0, none⟩), .pointer (some ⟨x.b, 0, none⟩), .pointer (some ⟨y.b, 0, none⟩)] w3 fun e w4 => StB w w4 P h t r c (d + 2) K g1 p1 j (j + 2) (x.L ++ y.L) e := by
  obtain ⟨o3, hk3, hh3, hs3⟩ := hst
  have hg := o3.lt g1 rfl
  have hin : ∀ k : Kid, NodeAt w3 (fun q => P q ∧ q ≠ g1) h k.b k.s k.L → NodeAt w3 (fun q => (P q ∧ q ≠ g1 ∧ q < w3.heap.size) ∨ w3.heap.size ≤ q) h k.b k.s k.L := fun k hk => hk.mono (fun q hq hp => Or.inl ⟨hp.1, hp.2, hq⟩)
  refine (joined_any hh3 ⟨by omega, by omega⟩ (hin x (hk3 x (List.mem_of_getElem? hx))) (hin y (hk3 y (List.mem_of_getElem? hy))) hx0 hy0 (fun k hk => Or.inr hk) hL).mono ?_
  rintro e w4 ⟨g2, p2, new, rfl, o4, ⟨m1, m2, m3⟩, hh4, hs4⟩
  have hg2 := o4.lt g2 rfl
  have hPg : ∀ q, q < w4.heap.size → ((P q ∧ q ≠ g1 ∧ q < w3.heap.size) ∨ w3.heap.size ≤ q) → (P q ∧ q ≠ g1) := fun q _ hq => by
    rcases hq with ⟨h1, h2, h3⟩ | h1
    · exact ⟨h1, h2⟩
    · exact ⟨hP q (by have := hs3.size; omega), by omega⟩
  have old : ∀ k ∈ K, NodeAt w4 (fun q => P q ∧ q ≠ g1) h k.b k.s k.L := fun k hk => (hk3 k hk).same hh3 hs4
  refine ⟨g2, p2, new, rfl, hs4.row o3 (fun k hk e => ?_), own_base o4 hs3.size, by omega, m1, fun k hkm => ?_, ?_, ?_, ⟨d + new.length, ?_, by rw [hh4, show c + ((d + new.length : Nat) : Int) = c + d + new.length by omega]⟩, hs3.trans hs4 (fun _ _ h => h)⟩
  · have : g1 = k := by simpa [Value.ownBlock] using hk
    omega
  · rcases List.mem_append.1 hkm with hkm | hkm
    · rcases List.mem_append.1 hkm with hkm | hkm
      · exact ⟨h4 k (List.mem_append_left _ hkm), old k (List.mem_of_mem_take hkm)⟩
      · refine ⟨?_, (m2 k hkm).mono hPg⟩
        rcases m3 with ⟨_, a, rfl, ha⟩ | ⟨_, a, b, rfl, ha, hb⟩
        · simp only [List.mem_singleton] at hkm
          subst hkm
          omega
        · simp only [List.mem_cons, List.not_mem_nil, or_false] at hkm
          rcases hkm with rfl | rfl <;> assumption
    · exact ⟨h4 k (List.mem_append_right _ hkm), old k (List.mem_of_mem_drop hkm)⟩
  · rcases m3 with ⟨_, a, rfl, ha⟩ | ⟨_, a, b, rfl, ha, hb⟩ <;> simp
  · rcases m3 with ⟨_, a, rfl, ha⟩ | ⟨_, a, b, rfl, ha, hb⟩ <;> simp
  · rcases m3 with ⟨_, a, rfl, ha⟩ | ⟨_, a, b, rfl, ha, hb⟩ <;> simp

end Go.Proofs.YtgfmemggfbgjeaaGreatDoor
