/-
  tree's inserted: a node with one element more. Conditions: few elements, a small count of writes. tree's down: below which node a place lies. Conditions: few nodes, small counts.
-/
import Derived.Test.YtgfmemggfbgjeaaGreatDoorM12
import Derived.Test.YtgfmemggfbgjeaaGreatDoorM4
namespace Go.Proofs.YtgfmemggfbgjeaaGreatDoor
open Go.RowKit Go.Extern.Stop Go.Stop Go.Extern Go.Lib
set_option maxRecDepth 1000000

/-- What inserted hands back. -/
def Ins (w w' : World) (P : Nat → Prop) (h : Nat) (t : Nat) (r : Value) (c : Int) (s : Nat) (L' : List En) (e : Ending) : Prop :=
  ∃ g cap ks, e = .returned (.slice (some ⟨g, 0, none⟩) ks.length cap) ∧ w'.ownsRow w.heap.size 109 1 (.slice (some ⟨g, 0, none⟩) ks.length cap) ks.length (kidsV ks) ∧ kidsL ks = L' ∧ (∀ k ∈ ks, NodeAt w' P h k.b k.s k.L) ∧
    ((∃ k, ks = [k] ∧ s ≤ k.s) ∨ ∃ a b, ks = [a, b] ∧ 4 ≤ a.s ∧ 4 ≤ b.s) ∧ (∃ d : Nat, d ≤ 2 * (h + 1) ∧ w'.heap[t]? = some (headObj r (c + d))) ∧ Same (fun k => k = t) w w'

/-- What leaves and inners hand back, as inserted's. -/
theorem ins_of_made {w w3 w' : World} {P : Nat → Prop} {h t n s : Nat} {r : Value} {c : Int} {d : Nat} {L' : List En} {g cap : Nat} {ks : List Kid} (hs : Same (fun k => k = t) w w3) (ho : w'.ownsRow w3.heap.size 109 1 (.slice (some ⟨g, 0, none⟩) ks.length cap) ks.length (kidsV ks))
    (hm : Made w' P h n L' ks) (hn : s ≤ n) (hh : w'.heap[t]? = some (headObj r (c + d + ks.length))) (hd : d ≤ 2 * h) (hs2 : Same (fun k => k = t) w3 w') : Ins w w' P h t r c s L' (.returned (.slice (some ⟨g, 0, none⟩) ks.length cap)) := by
  obtain ⟨a1, a2, a3, a4, cs, a5, a6, a7⟩ := ownsRow_open ho
  obtain ⟨h1, h2, h3⟩ := hm
  have hkl : ks.length ≤ 2 := by
    rcases h3 with ⟨_, k, rfl, _⟩ | ⟨_, a, b, rfl, _⟩ <;> simp
  refine ⟨g, cap, ks, rfl, ownsRow_shut (by have := hs.size; omega) a2 a3 a5 a6 a7, h1, h2, ?_, ⟨d + ks.length, by omega, by rw [hh, show c + ((d + ks.length : Nat) : Int) = c + d + ks.length by omega]⟩, hs.trans hs2 (fun _ _ h => h)⟩
  rcases h3 with ⟨_, k, hk, hks⟩ | ⟨_, a, b, hk, ha, hb⟩
  · exact Or.inl ⟨k, hk, by omega⟩
  · exact Or.inr ⟨a, b, hk, ha, hb⟩

theorem entsV_insert (L : List En) (i : Nat) (v : En) : (entsV L).take (i * 2) ++ [.slice v.ao v.n v.cap, .int .i64 v.id] ++ (entsV L).drop (i * 2) = entsV (L.take i ++ v :: L.drop i) := by
  rw [entsV_append, entsV_take]
  simp only [entsV, entsV_drop, List.append_assoc, List.cons_append, List.nil_append]

theorem Ins.back {w w' : World} {P : Nat → Prop} {h t : Nat} {r : Value} {c : Int} {s : Nat} {L' : List En} {e : Ending} (hi : Ins w w' P h t r c s L' e) : ∃ g n p, e = .returned (.slice (some ⟨g, 0, none⟩) n p) := by
  obtain ⟨g, p, ks, rfl, _⟩ := hi
  exact ⟨g, _, p, rfl⟩

theorem drew_size (w : World) : w.drew.heap.size = w.heap.size := rfl
theorem alloc_size (w : World) (o : Obj) : (w.alloc o).heap.size = w.heap.size + 1 := by simp

theorem own_base2 {w : World} {B B' n : Nat} {x : Value} {xs : List Value} {e : TypeId} {size : Nat} (h : w.ownsRow B e size x n xs) (hB : B' ≤ B) : w.ownsRow B' e size x n xs :=
  ⟨h.1, h.2.imp id fun ⟨g, cap, cur, a, b, c⟩ => ⟨g, cap, cur, a, Nat.le_trans hB b, c⟩⟩

/-- slices.Insert, then leaves: behind the clone. -/
theorem ins_call {w W : World} {g1 p1 vb i : Nat} {L : List En} {v : En} (hs : Same (fun _ => False) w W) (ho : W.ownsRow w.heap.size 57 2 (.slice (some ⟨g1, 0, none⟩) L.length p1) L.length (entsV L)) (hv : W.heap[vb]? = some (.cells #[.slice v.ao v.n v.cap, .int .i64 v.id] 57 (0, 0))) (hvb : vb ≠ g1) (hn : L.length ≤ 8) (hi : i ≤ L.length) :
    Calls Tryz.prog 78 #[.slice (some ⟨g1, 0, none⟩) L.length p1, .int .i64 i, .slice (some ⟨vb, 0, none⟩) 1 1] W fun e w' => ∃ g3 p3, e = .returned (.slice (some ⟨g3, 0, none⟩) (L.length + 1) p3) ∧ w'.ownsRow w.heap.size 57 2 (.slice (some ⟨g3, 0, none⟩) (L.length + 1) p3) (L.length + 1) (entsV (L.take i ++ v :: L.drop i)) ∧ Same (fun _ => False) w w' := by
  have hg := (ho.lt g1 rfl).1
  refine (insert_any ho hs.size (by omega) hi (ents_one L) hv (ents_one [v]) hvb).mono ?_
  rintro e w3 ⟨g3, p3, rfl, o3, s3⟩
  rw [entsV_insert] at o3
  exact ⟨g3, p3, rfl, o3, hs.trans s3 (fun k hk e => by omega)⟩

theorem leaves_call {w W : World} {P : Nat → Prop} {t g3 p3 n : Nat} {r : Value} {c : Int} {L' : List En} (ht : w.heap[t]? = some (headObj r c)) (hc : 0 ≤ c ∧ c ≤ 800000000) (hs : Same (fun _ => False) w W) (ho : W.ownsRow w.heap.size 57 2 (.slice (some ⟨g3, 0, none⟩) (n + 1) p3) (n + 1) (entsV L')) (hn : n ≤ 8) (hl : L'.length = n + 1) (hP : ∀ k, w.heap.size ≤ k → P k) :
    Calls Tryz.prog 77 #[.pointer (some ⟨t, 0, none⟩), .slice (some ⟨g3, 0, none⟩) (n + 1) p3] W fun e w' => Ins w w' P 0 t r c n L' e := by
  refine (leaves_any (P := P) (hs.obj ht id) ⟨hc.1, by omega⟩ (ownsRow_readZ ho) (by omega) (by omega) (fun k hk => hP k (ho.lt k hk).1) (fun k hk => hP k (by have := hs.size; omega))).mono ?_
  rintro e w4 ⟨g4, p4, ks, rfl, o4, m4, h4, s4⟩
  exact ins_of_made (d := 0) (s := n) (hs.weaken (fun _ _ h => h.elim)) o4 m4 (by omega) (by simpa using h4) (by omega) s4

set_option maxHeartbeats 4000000 in
theorem inserted_leaf {w : World} {P : Nat → Prop} {t b s i : Nat} {r : Value} {c : Int} {v : En} {L : List En} (ht : w.heap[t]? = some (headObj r c)) (hc : 0 ≤ c ∧ c ≤ 800000000) (hn : NodeAt w P 0 b s L) (hs0 : 0 < s) (hi : i ≤ L.length) (hP : ∀ k, w.heap.size ≤ k → P k) :
    Calls Tryz.prog 58 #[.pointer (some ⟨t, 0, none⟩), .pointer (some ⟨b, 0, none⟩), .int .i64 i, v.agg] w fun e w' => Ins w w' P 0 t r c s (L.take i ++ v :: L.drop i) e := by
  obtain ⟨hs, h8, hpb, l, hb, hr, hlP⟩ := hn
  subst hs
  obtain ⟨n0, n1, n2, nf⟩ := node_cells hb
  have hlb := lt_of_block hb
  have hlt := lt_of_block ht
  obtain ⟨wb, hwb⟩ : ∃ wb, wb = w.alloc (.cells #[.slice v.ao v.n v.cap, .int .i64 v.id] 57) := ⟨_, rfl⟩
  have hsb : Same (fun _ => False) w wb := by rw [hwb]; exact (Same.refl _ w).alloc _
  have hbb : wb.heap[w.heap.size]? = some (.cells #[.slice v.ao v.n v.cap, .int .i64 v.id] 57 (0, 0)) := by rw [hwb]; exact heap_alloc_new _ _
  have hbx : ∀ (W : World), Same (fun _ => False) wb W → W.cell? ⟨w.heap.size, 0, none⟩ = some (.slice v.ao v.n v.cap) ∧ W.cell? ⟨w.heap.size, 1, none⟩ = some (.int .i64 v.id) ∧ w.heap.size < W.heap.size := fun W h => by
    have h2 := h.obj hbb id
    exact ⟨by simp [World.cell?, h2], by simp [World.cell?, h2], lt_of_block h2⟩
  obtain ⟨x0, x1, xl⟩ := hbx wb (Same.refl _ _)
  have n0b := (World.cell?_of_block (a := ⟨b, 0, none⟩) (hsb.block b hlb id)).trans n0
  have hlbb : b < wb.heap.size := by have := hsb.size; omega
  have hszb : wb.heap.size = w.heap.size + 1 := by rw [hwb]; simp
  have HCL := Lib.hid (fun (W : World) (h : Same (fun _ => False) wb W) => clonei (hr.kept (hsb.trans h (fun _ _ h => h)) (fun _ _ => id)) (by simpa using hs0) (by omega))
  have HBX := Lib.hid hbx; have HSB := Lib.hid hsb
  have HINS := Lib.hid (fun (W : World) (g1 p1 vb : Nat) (h : Same (fun _ => False) w W) (ho : W.ownsRow w.heap.size 57 2 (.slice (some ⟨g1, 0, none⟩) L.length p1) L.length (entsV L)) (hv : W.heap[vb]? = some (.cells #[.slice v.ao v.n v.cap, .int .i64 v.id] 57 (0, 0))) (hvb : vb ≠ g1) => ins_call h ho hv hvb (by omega) hi)
  have HLV := Lib.hid (fun (W : World) (g3 p3 : Nat) (h : Same (fun _ => False) w W) (ho : W.ownsRow w.heap.size 57 2 (.slice (some ⟨g3, 0, none⟩) (L.length + 1) p3) (L.length + 1) (entsV (L.take i ++ v :: L.drop i))) => leaves_call (P := P) ht hc h ho (by omega) (by simp; omega) hP)
  have HWB := Lib.hid hwb; have HSZ := Lib.hid hszb
  clear hr ht hb hP hlP n2 nf hbb hbx hsb hwb hszb
  go_enter Tryz.func58, Tryz.ntmps58
  go_upto_region 2 with fail
  rw [← HWB.out]
  go_region_law (first
    | (go_simp; refine (HCL.out _ (by repeat (first | assumption | exact Same.refl _ _ | refine Same.drew ?_ | refine Same.alloc ?_ _))).mono ?_; rintro e w2 ⟨g1, p1, rfl, o1, s1⟩; have hT : Same (fun _ => False) wb w2 := Same.trans (by repeat (first | assumption | exact Same.refl _ _ | refine Same.drew ?_ | refine Same.alloc ?_ _)) s1 (fun _ _ h => h); obtain ⟨y0, y1, yl⟩ := HBX.out w2 hT; have hg1 := o1.lt g1 rfl; simp only [drew_size, alloc_size] at hg1; have o2 := own_base2 (B' := w.heap.size) o1 (by simp only [drew_size, alloc_size]; omega); try (have hv2 := s1.obj (heap_alloc_new wb.drew _) id))
    | (go_simp; refine (HINS.out _ g1 p1 _ (by first | exact HSB.out.trans hT (fun _ _ h => h) | exact (HSB.out.trans hT (fun _ _ h => h)).alloc _) (by first | exact o2 | exact o2.alloc _) (by first | exact hv2 | exact heap_alloc_new _ _) (by have := HSZ.out; omega)).mono ?_; rintro e w3 ⟨g3, p3, rfl, o3, s3⟩)
    | (go_simp; refine (HLV.out _ g3 p3 s3 o3).mono ?_; rintro e w4 hin; obtain ⟨g4, n4, p4, rfl⟩ := hin.back; have HIN := Lib.hid hin; clear hin))
  all_goals go_wp2_with fail
  all_goals go_ret
  all_goals exact HIN.out

end Go.Proofs.YtgfmemggfbgjeaaGreatDoor

namespace Go.Proofs.YtgfmemggfbgjeaaGreatDoor
open Go.RowKit Go.Extern.Stop Go.Stop Go.Extern Go.Lib
set_option maxRecDepth 1000000

theorem sum_take (ns : List Int) (j : Nat) (m : Int) (h : ns[j]? = some m) : (ns.take (j + 1)).sum = (ns.take j).sum + m := by
  rw [List.take_add_one, h]
  simp

set_option maxHeartbeats 8000000 in
theorem down_any {w : World} {b : Nat} {l kv : Value} {n i : Int} {bs : List Nat} {ns : List Int} (hb : w.heap[b]? = some (nodeObj l kv n)) (hr : ReadC w 109 kv (ptrsV bs)) (hl : ns.length = bs.length)
    (hk : ∀ (j c : Nat) (m : Int), bs[j]? = some c → ns[j]? = some m → 0 ≤ m ∧ m ≤ 1000000 ∧ ∃ l k, w.heap[c]? = some (nodeObj l k m)) (h0 : 0 < bs.length) (hbn : bs.length ≤ 1000000) (i0 : 0 ≤ i) (i1 : i ≤ 1000000) :
    Calls Tryz.prog 56 #[.pointer (some ⟨b, 0, none⟩), .int .i64 i] w fun e w' => w = w' ∧ ∃ (j : Nat) (p : Int), e = .returned (.tuple #[.int .i64 j, .int .i64 p]) ∧ j < bs.length ∧ 0 ≤ p ∧ i = (ns.take j).sum + p ∧ (j + 1 = bs.length ∨ ∃ m, ns[j]? = some m ∧ p < m) := by
  obtain ⟨c0, c1, c2, cf⟩ := node_cells hb
  have hlb := lt_of_block hb
  obtain ⟨ko, kc, rfl, hc, _⟩ := hr
  have hlen : (ptrsV bs).length = bs.length := by simp
  rw [hlen] at c1 hb
  have HC := Lib.hid hc; have HK := Lib.hid hk; have HL := Lib.hid hl
  clear hb hc hk hl c0 c2 cf hlen
  go_enter Tryz.func56, Tryz.ntmps56
  go_wp2_with fail
  go_loopg [6, 1] bs.length (fun r kk ii wr => ∃ (j : Nat) (p : Int), j + r = bs.length ∧ kk = .int .i64 j ∧ ii = .int .i64 p ∧ j < bs.length ∧ 0 ≤ p ∧ p ≤ 1000000 ∧ i = (ns.take j).sum + p ∧ w = wr)
  case atStart => exact ⟨0, i, by omega, rfl, rfl, h0, i0, i1, by simp, rfl⟩
  case round =>
    obtain ⟨j, p, hjr, rfl, rfl, hj, hp0, hp1, hsum, rfl⟩ := hrel
    have HS := Lib.hid hsum
    clear hsum
    obtain ⟨bk, off, cs, fr, rfl, hbk, hx⟩ := HC.out j (.pointer (some ⟨bs[j], 0, none⟩)) (by simp [hj])
    have hm : ns[j]? = some (ns[j]'(by have := HL.out; omega)) := List.getElem?_eq_getElem _
    obtain ⟨m0, m1, lk, kk, hcd⟩ := HK.out j bs[j] _ (List.getElem?_eq_getElem hj) hm
    obtain ⟨_, _, n2, _⟩ := node_cells hcd
    have hlc := lt_of_block hcd
    have hlk := lt_of_block hbk
    have HM := Lib.hid hm
    have HSUM := Lib.hid (sum_take _ _ _ hm)
    generalize ns[j]'(by have := HL.out; omega) = m at *
    generalize bs[j] = c at *
    clear hcd hbk hm
    by_cases hlast : j + 1 < bs.length
    · have hl' : (j : Int) + 1 < (bs.length : Int) := by omega
      have hjb : (j : Int) < (bs.length : Int) := by omega
      by_cases hge : m ≤ p
      · go_wp2_with fail
        go_roundg (gk - 1)
        case measure => omega
        case rel => exact ⟨j + 1, p - m, by omega, by go_num, by go_num, hlast, by omega, by omega, by have := HS.out; have := HSUM.out; omega, rfl⟩
      · have hge' : p < m := by omega
        go_wp2_with fail
        go_ret2
        exact ⟨rfl, j, p, rfl, hj, hp0, HS.out, Or.inr ⟨m, HM.out, hge'⟩⟩
    · have hl' : ¬ (j : Int) + 1 < (bs.length : Int) := by omega
      go_wp2_with fail
      go_ret2
      exact ⟨rfl, j, p, rfl, hj, hp0, HS.out, Or.inl (by omega)⟩

end Go.Proofs.YtgfmemggfbgjeaaGreatDoor
