/-
  tree's joined: two nodes written anew. Conditions: sixteen entries together at most, a small count of writes.
-/
import Derived.Test.YtgfmemggfbgjeaaGreatDoorM18
namespace Go.Proofs.YtgfmemggfbgjeaaGreatDoor
open Go.RowKit Go.Extern.Stop Go.Stop Go.Extern Go.Lib
set_option maxRecDepth 1000000

/-- What joined hands back. -/
def Joins (w w' : World) (P : Nat → Prop) (h n t : Nat) (r : Value) (c : Int) (L : List En) (e : Ending) : Prop :=
  ∃ g cap ks, e = .returned (.slice (some ⟨g, 0, none⟩) (List.length ks) cap) ∧ w'.ownsRow w.heap.size 109 1 (.slice (some ⟨g, 0, none⟩) ks.length cap) ks.length (kidsV ks) ∧ Made w' P h n L ks ∧ w'.heap[t]? = some (headObj r (c + ks.length)) ∧ Same (fun k => k = t) w w'

theorem Joins.ret {w w' : World} {P : Nat → Prop} {h n t : Nat} {r : Value} {c : Int} {L : List En} {e : Ending} (hj : Joins w w' P h n t r c L e) : ∃ g n cap, e = .returned (.slice (some ⟨g, 0, none⟩) n cap) := by
  obtain ⟨g, cap, ks, e, _⟩ := hj
  exact ⟨g, _, cap, e⟩

theorem alloc_drew_new (w : World) (o : Obj) : (w.alloc o).drew.heap[w.heap.size]? = some o := heap_alloc_new w o

theorem pair_read {w0 : World} {T : TypeId} {q : Nat} {v1 v2 : Value} (hq : w0.heap[q]? = some (.cells #[v1, v2] T (0, 0))) : ReadC w0 T (.slice (some ⟨q, 0, none⟩) 2 2) [v1, v2] := by
  refine ⟨_, 2, rfl, fun j v hj => ⟨_, _, _, _, rfl, hq, ?_⟩, by simp⟩
  simp only [World.cell?, hq]
  simpa using hj

theorem cat_i {w w0 : World} {q : Nat} {v1 v2 : Value} {A C : List En} (hs : Same (fun _ => False) w w0) (hq : w0.heap[q]? = some (.cells #[v1, v2] 61 (0, 0))) (h1 : ReadE w v1 A) (h2 : ReadE w v2 C) (hA : 0 < A.length) (hC : 0 < C.length) (hn : A.length + C.length ≤ 100000) :
    Calls Tryz.prog 107 #[.slice (some ⟨q, 0, none⟩) 2 2] w0 fun e w' => ∃ g cap, e = .returned (.slice (some ⟨g, 0, none⟩) (A.length + C.length) cap) ∧ w'.ownsRow w.heap.size 57 2 (.slice (some ⟨g, 0, none⟩) (A.length + C.length) cap) (A.length + C.length) (entsV (A ++ C)) ∧ Same (fun _ => False) w w' := by
  have hfl : flatV [A, C] = A ++ C := by simp [flatV]
  refine (concati (pair_read hq) (ls := [A, C]) rfl ?_ (by simp) (by simp) (by rw [hfl, List.length_append]; exact hn)).mono ?_
  · intro j v l hv hl
    rcases j with _ | _ | j
    · cases hv; cases hl
      exact ⟨ReadZ.kept h1 hs (fun _ _ => id), hA⟩
    · cases hv; cases hl
      exact ⟨ReadZ.kept h2 hs (fun _ _ => id), hC⟩
    · cases hv
  · rintro e w' ⟨g, cap, rfl, ho, hs2⟩
    rw [hfl, List.length_append] at ho
    exact ⟨g, cap, by rw [hfl, List.length_append], own_base2 ho hs.size, hs.trans hs2 (fun _ _ h => h)⟩

theorem cat_k {w w0 : World} {q : Nat} {v1 v2 : Value} {A C : List Kid} (hs : Same (fun _ => False) w w0) (hq : w0.heap[q]? = some (.cells #[v1, v2] 114 (0, 0))) (h1 : ReadC w 109 v1 (kidsV A)) (h2 : ReadC w 109 v2 (kidsV C)) (hA : 0 < A.length) (hC : 0 < C.length) (hn : A.length + C.length ≤ 100000) :
    Calls Tryz.prog 106 #[.slice (some ⟨q, 0, none⟩) 2 2] w0 fun e w' => ∃ g cap, e = .returned (.slice (some ⟨g, 0, none⟩) (A.length + C.length) cap) ∧ w'.ownsRow w.heap.size 109 1 (.slice (some ⟨g, 0, none⟩) (A.length + C.length) cap) (A.length + C.length) (kidsV (A ++ C)) ∧ Same (fun _ => False) w w' := by
  have hfl : flatV [kidsV A, kidsV C] = kidsV (A ++ C) := by simp [flatV, kidsV]
  refine (concatk (pair_read hq) (ls := [kidsV A, kidsV C]) rfl ?_ (by simp) (by simp) (by rw [hfl]; simpa using hn)).mono ?_
  · intro j v l hv hl
    rcases j with _ | _ | j
    · cases hv; cases hl
      exact ⟨h1.kept hs (fun _ _ => id), by simpa using hA, kids_one A⟩
    · cases hv; cases hl
      exact ⟨h2.kept hs (fun _ _ => id), by simpa using hC, kids_one C⟩
    · cases hv
  · rintro e w' ⟨g, cap, rfl, ho, hs2⟩
    rw [hfl, List.length_map, List.length_append] at ho
    exact ⟨g, cap, by rw [hfl, List.length_map, List.length_append], own_base ho hs.size, hs.trans hs2 (fun _ _ h => h)⟩

theorem join_i {w w2 : World} {P : Nat → Prop} {t g n cap : Nat} {r : Value} {c : Int} {L : List En} (ht : w.heap[t]? = some (headObj r c)) (hc : 0 ≤ c ∧ c ≤ 800000000) (hP : ∀ k, w.heap.size ≤ k → P k) (hn : L.length = n) (h0 : 0 < L.length) (h16 : L.length ≤ 16)
    (ho : w2.ownsRow w.heap.size 57 2 (.slice (some ⟨g, 0, none⟩) n cap) n (entsV L)) (hs : Same (fun _ => False) w w2) :
    Calls Tryz.prog 77 #[.pointer (some ⟨t, 0, none⟩), .slice (some ⟨g, 0, none⟩) n cap] w2 fun e w' => Joins w w' P 0 n t r c L e := by
  subst hn
  refine (leaves_any (P := P) (hs.obj ht id) ⟨hc.1, by omega⟩ (ownsRow_readZ ho) h0 h16 (fun k hk => hP k (ho.lt k hk).1) (fun k hk => hP k (by have := hs.size; omega))).mono ?_
  rintro e w' ⟨g4, p4, ks, rfl, o4, m4, h4, s4⟩
  exact ⟨g4, p4, ks, rfl, own_base o4 hs.size, m4, h4, (hs.weaken (fun _ _ h => h.elim)).trans s4 (fun _ _ h => h)⟩

theorem join_k {w w2 : World} {P : Nat → Prop} {h t g n cap : Nat} {r : Value} {c : Int} {K : List Kid} (ht : w.heap[t]? = some (headObj r c)) (hc : 0 ≤ c ∧ c ≤ 800000000) (hP : ∀ k, w.heap.size ≤ k → P k) (hn : K.length = n) (h0 : 0 < K.length) (h16 : K.length ≤ 16) (hk : ∀ k ∈ K, 4 ≤ k.s ∧ NodeAt w P h k.b k.s k.L) (hL : (kidsL K).length ≤ 1000000)
    (ho : w2.ownsRow w.heap.size 109 1 (.slice (some ⟨g, 0, none⟩) n cap) n (kidsV K)) (hs : Same (fun _ => False) w w2) :
    Calls Tryz.prog 80 #[.pointer (some ⟨t, 0, none⟩), .slice (some ⟨g, 0, none⟩) n cap] w2 fun e w' => Joins w w' P (h + 1) n t r c (kidsL K) e := by
  subst hn
  refine (inners_any (P := P) (hs.obj ht id) ⟨hc.1, by omega⟩ (ownsRow_read ho) h0 h16 (fun k hk => hP k (ho.lt k hk).1) (fun k hk => hP k (by have := hs.size; omega)) (fun k hkm => ⟨(hk k hkm).1, (hk k hkm).2.keep hs (fun _ h => h.elim)⟩) hL).mono ?_
  rintro e w' ⟨g4, p4, ks, rfl, o4, m4, h4, s4⟩
  exact ⟨g4, p4, ks, rfl, own_base o4 hs.size, m4, h4, (hs.weaken (fun _ _ h => h.elim)).trans s4 (fun _ _ h => h)⟩

set_option maxHeartbeats 8000000 in
theorem joined_leaf {w : World} {P : Nat → Prop} {t a b sa sb : Nat} {r : Value} {c : Int} {A C : List En} (ht : w.heap[t]? = some (headObj r c)) (hc : 0 ≤ c ∧ c ≤ 800000000) (ha : NodeAt w P 0 a sa A) (hb : NodeAt w P 0 b sb C) (ha0 : 0 < sa) (hb0 : 0 < sb) (hP : ∀ k, w.heap.size ≤ k → P k) :
    Calls Tryz.prog 94 #[.pointer (some ⟨t, 0, none⟩), .pointer (some ⟨a, 0, none⟩), .pointer (some ⟨b, 0, none⟩)] w fun e w' => Joins w w' P 0 (sa + sb) t r c (A ++ C) e := by
  obtain ⟨e1, ha8, _, la, hha, hra, _⟩ := ha
  obtain ⟨e2, hb8, _, lb, hhb, hrb, _⟩ := hb
  subst e1 e2
  obtain ⟨aa, ac, rfl, _⟩ := ReadE.shape hra
  obtain ⟨ba, bc, rfl, _⟩ := ReadE.shape hrb
  obtain ⟨a0, a1, _, _⟩ := node_cells hha
  obtain ⟨b0, b1, _, _⟩ := node_cells hhb
  have hla := lt_of_block hha
  have hlb := lt_of_block hhb
  have HCAT := Lib.hid (fun (w0 : World) (hs : Same (fun _ => False) w w0) (hq : w0.heap[w.heap.size]? = some (.cells #[.slice aa A.length ac, .slice ba C.length bc] 61 (0, 0))) => cat_i hs hq hra hrb ha0 hb0 (by omega))
  have HJ := Lib.hid (fun (w2 : World) (g cap : Nat) (ho : w2.ownsRow w.heap.size 57 2 (.slice (some ⟨g, 0, none⟩) (A.length + C.length) cap) (A.length + C.length) (entsV (A ++ C))) (hs : Same (fun _ => False) w w2) => join_i (P := P) ht hc hP List.length_append (by rw [List.length_append]; omega) (by rw [List.length_append]; omega) ho hs)
  clear hra hrb hha hhb ht
  go_enter Tryz.func94, Tryz.ntmps94
  go_wp2_with fail
  go_region_with (first
      | (go_at_call 107; with_reducible refine (HCAT.out _ ?_ ?_).mono ?_; (focus (first | exact ((Same.refl (fun _ => False) w).alloc _).drew | exact ((Same.refl (fun _ => False) w).drew).alloc _)); (focus (exact alloc_drew_new w _)); rintro e w2 ⟨g2, p2, rfl, o2, s2⟩)
      | (go_at_call 77; with_reducible refine (HJ.out _ _ _ o2 s2).mono ?_; rintro e w4 hj; obtain ⟨g4, n4, p4, rfl⟩ := hj.ret; have HF := Lib.hid hj; clear hj o2 s2))
  all_goals go_wp2_with fail
  all_goals (go_ret; exact HF.out)

set_option maxHeartbeats 8000000 in
theorem joined_inner {w : World} {P : Nat → Prop} {t a b sa sb : Nat} {r : Value} {c : Int} {h : Nat} {LA LC : List En} (ht : w.heap[t]? = some (headObj r c)) (hc : 0 ≤ c ∧ c ≤ 800000000) (ha : NodeAt w P (h + 1) a sa LA) (hb : NodeAt w P (h + 1) b sb LC) (ha0 : 0 < sa) (hb0 : 0 < sb) (hP : ∀ k, w.heap.size ≤ k → P k) (hLL : LA.length + LC.length ≤ 100000) :
    Calls Tryz.prog 94 #[.pointer (some ⟨t, 0, none⟩), .pointer (some ⟨a, 0, none⟩), .pointer (some ⟨b, 0, none⟩)] w fun e w' => Joins w w' P (h + 1) (sa + sb) t r c (LA ++ LC) e := by
  obtain ⟨ha8, _, _, la, A, e1, hha, hra, _, e3, hkA⟩ := ha
  obtain ⟨hb8, _, _, lb, C, e2, hhb, hrb, _, e4, hkC⟩ := hb
  subst e1 e2 e3 e4
  have hlA : (kidsV A).length = A.length := by simp
  have hlC : (kidsV C).length = C.length := by simp
  obtain ⟨aa, ac, rfl, _, _⟩ := id hra
  obtain ⟨ba, bc, rfl, _, _⟩ := id hrb
  rw [hlA] at hra hha
  rw [hlC] at hrb hhb
  obtain ⟨a0, a1, _, _⟩ := node_cells hha
  obtain ⟨b0, b1, _, _⟩ := node_cells hhb
  have hla := lt_of_block hha
  have hlb := lt_of_block hhb
  have HCAT := Lib.hid (fun (w0 : World) (hs : Same (fun _ => False) w w0) (hq : w0.heap[w.heap.size]? = some (.cells #[.slice aa A.length ac, .slice ba C.length bc] 114 (0, 0))) => cat_k hs hq hra hrb ha0 hb0 (by omega))
  have HJ := Lib.hid (fun (w2 : World) (g cap : Nat) (ho : w2.ownsRow w.heap.size 109 1 (.slice (some ⟨g, 0, none⟩) (A.length + C.length) cap) (A.length + C.length) (kidsV (A ++ C))) (hs : Same (fun _ => False) w w2) => join_k (P := P) (h := h) (K := A ++ C) ht hc hP List.length_append (by rw [List.length_append]; omega) (by rw [List.length_append]; omega) (fun k hk => (List.mem_append.1 hk).elim (hkA k) (hkC k)) (by rw [kidsL_append, List.length_append]; omega) ho hs)
  rw [kidsL_append] at HJ
  have hAn : (0 : Int) < (A.length : Int) := by omega
  clear hkA hkC hra hrb hha hhb ht
  go_enter Tryz.func94, Tryz.ntmps94
  go_wp2_with fail
  go_region_with (first
      | (go_at_call 106; with_reducible refine (HCAT.out _ ?_ ?_).mono ?_; (focus (first | exact ((Same.refl (fun _ => False) w).alloc _).drew | exact ((Same.refl (fun _ => False) w).drew).alloc _)); (focus (exact alloc_drew_new w _)); rintro e w2 ⟨g2, p2, rfl, o2, s2⟩)
      | (go_at_call 80; with_reducible refine (HJ.out _ _ _ o2 s2).mono ?_; rintro e w4 hj; obtain ⟨g4, n4, p4, rfl⟩ := hj.ret; have HF := Lib.hid hj; clear hj o2 s2))
  all_goals go_wp2_with fail
  all_goals (go_ret; exact HF.out)

end Go.Proofs.YtgfmemggfbgjeaaGreatDoor
