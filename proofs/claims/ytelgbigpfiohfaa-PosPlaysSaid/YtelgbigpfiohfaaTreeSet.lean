/-
  tree's set: a node with another element in one's place. Conditions: few elements, a small count of writes.
-/
import Derived.Test.YtelgbigpfiohfaaTreeInsInner
namespace Go.Proofs.Ytelgbigpfiohfaa
open Go.RowKit Go.Extern.Stop Go.Stop Go.Extern Go.Lib
set_option maxRecDepth 1000000

/-- A node is handed back. -/
def Back (w w' : World) (P : Nat → Prop) (h t : Nat) (r : Value) (c : Int) (most lo hi : Nat) (L' : List Int) (e : Ending) : Prop :=
  ∃ b s, e = .returned (.pointer (some ⟨b, 0, none⟩)) ∧ lo ≤ s ∧ s ≤ hi ∧ NodeAt w' P h b s L' ∧ (∃ d : Nat, d ≤ most ∧ w'.heap[t]? = some (headObj r (c + d))) ∧ Same (fun k => k = t) w w'

theorem row_set {w : World} {B : Nat} {T : TypeId} {g n cap j : Nat} {xs : List Value} (h : w.ownsRow B T 1 (.slice (some ⟨g, 0, none⟩) n cap) n xs) (u : Value) : (w.setCell ⟨g, j, none⟩ u).ownsRow B T 1 (.slice (some ⟨g, 0, none⟩) n cap) n (xs.set j u) := by
  obtain ⟨a1, a2, a3, a4, cs, a5, a6, a7⟩ := ownsRow_open h
  refine ownsRow_shut (cs := cs.set j u) a1 a2 a3 (by rw [List.length_set]; exact a5) (by rw [← a6, List.take_set]) ?_
  have := set_at (o := j) (u := u) a7
  simpa using this

theorem row_cell {w : World} {B : Nat} {T : TypeId} {g n cap j : Nat} {xs : List Value} {u : Value} (h : w.ownsRow B T 1 (.slice (some ⟨g, 0, none⟩) n cap) n xs) (hj : xs[j]? = some u) : w.cell? ⟨g, j, none⟩ = some u ∧ w.frozen? ⟨g, j, none⟩ = false ∧ g < w.heap.size := by
  obtain ⟨a1, a2, a3, a4, cs, a5, a6, a7⟩ := ownsRow_open h
  have := (ownsRow_read h).cell hj
  rw [Nat.zero_add] at this
  exact ⟨this, by simp [World.frozen?, a7], lt_of_block a7⟩

/-- A leaf is written of a row. -/
theorem back_leaf {w w3 w' : World} {P : Nat → Prop} {t g n cap b lo hi : Nat} {r : Value} {c : Int} {L' : List Int} (hs : Same (fun k => k = t) w w3) (ht : w3.heap[t]? = some (headObj r c)) (ho : w3.ownsRow w.heap.size 2 1 (.slice (some ⟨g, 0, none⟩) n cap) n (intsV L')) (hP : ∀ k, w.heap.size ≤ k → P k) (h8 : L'.length ≤ 8) (hlo : lo ≤ L'.length) (hhi : L'.length ≤ hi)
    (hb : w3.heap.size ≤ b) (hn : w'.heap[b]? = some (nodeObj (.slice (some ⟨g, 0, none⟩) n cap) (.slice none 0 0) n)) (hh : w'.heap[t]? = some (headObj r (c + 1))) (hs2 : Same (fun k => k = t) w3 w') : Back w w' P 0 t r c 1 lo hi L' (.returned (.pointer (some ⟨b, 0, none⟩))) := by
  have hr := (ownsRow_read ho).same hs2 (head_only ht) (by decide)
  have hln := hr.len
  rw [List.length_map] at hln
  have hg := ho.lt g rfl
  refine ⟨b, L'.length, rfl, hlo, hhi, ⟨rfl, h8, hP b (by have := hs.size; omega), _, by rw [hn, hln], hr, fun k hk => ?_⟩, ⟨1, Nat.le_refl _, hh⟩, hs.trans hs2 (fun _ _ h => h)⟩
  have : g = k := by simpa [Value.ownBlock] using hk
  have := hs2.size
  exact ⟨hP k (by omega), by omega⟩

/-- A node of nodes is written of a row. -/
theorem back_inner {w w3 w' : World} {P : Nat → Prop} {h t g cap b lo hi d most : Nat} {r : Value} {c : Int} {K : List Kid} {L' : List Int} (hs : Same (fun k => k = t) w w3) (ht : w3.heap[t]? = some (headObj r (c + d))) (ho : w3.ownsRow w.heap.size 74 1 (.slice (some ⟨g, 0, none⟩) K.length cap) K.length (kidsV K)) (hP : ∀ k, w.heap.size ≤ k → P k) (h8 : K.length ≤ 8) (h0 : 0 < K.length) (hlo : lo ≤ K.length) (hhi : K.length ≤ hi)
    (hK : kidsL K = L') (hk : ∀ k ∈ K, 4 ≤ k.s ∧ NodeAt w3 P h k.b k.s k.L)
    (hb : w3.heap.size ≤ b) (hn : w'.heap[b]? = some (nodeObj (.slice none 0 0) (.slice (some ⟨g, 0, none⟩) K.length cap) (kidsL K).length)) (hd : d + 1 ≤ most) (hh : w'.heap[t]? = some (headObj r (c + d + 1))) (hs2 : Same (fun k => k = t) w3 w') : Back w w' P (h + 1) t r c most lo hi L' (.returned (.pointer (some ⟨b, 0, none⟩))) := by
  have hr := (ownsRow_read ho).same hs2 (head_only ht) (by decide)
  have hg := ho.lt g rfl
  refine ⟨b, K.length, rfl, hlo, hhi, ⟨h8, h0, hP b (by have := hs.size; omega), _, K, rfl, by rw [hn, hK], hr, fun k hk => ?_, hK.symm, fun k hkm => ⟨(hk k hkm).1, (hk k hkm).2.same ht hs2⟩⟩, ⟨d + 1, hd, by rw [hh, show c + ((d + 1 : Nat) : Int) = c + d + 1 by omega]⟩, hs.trans hs2 (fun _ _ h => h)⟩
  have : g = k := by simpa [Value.ownBlock] using hk
  have := hs2.size
  exact ⟨hP k (by omega), by omega⟩

/-- What set is to do at nodes of height h. -/
def SetAll (h : Nat) : Prop := ∀ {w : World} {P : Nat → Prop} {t b s i : Nat} {r : Value} {c v : Int} {L : List Int}, w.heap[t]? = some (headObj r c) → 0 ≤ c ∧ c + (h + 1) ≤ 800000000 → NodeAt w P h b s L → 0 < s → i < L.length → L.length ≤ 100000 → (∀ k, w.heap.size ≤ k → P k) →
    Calls Try.prog 56 #[.pointer (some ⟨t, 0, none⟩), .pointer (some ⟨b, 0, none⟩), .int .i64 i, .int .i64 v] w fun e w' => Back w w' P h t r c (h + 1) s s (L.set i v) e

set_option maxHeartbeats 4000000 in
theorem set_leaf : SetAll 0 := by
  intro w P t b s i r c v L ht hc hn hs0 hi _ hP
  obtain ⟨hs, h8, hpb, l, hb, hr, hlP⟩ := hn
  subst hs
  obtain ⟨n0, n1, n2, nf⟩ := node_cells hb
  have hlb := lt_of_block hb
  have hlt := lt_of_block ht
  have HCL := Lib.hid (clonei hr (by simpa using hs0) (by simp; omega) (ints_one L))
  have HT := Lib.hid ht; have HP := Lib.hid hP
  have hii : (i : Int) < (L.length : Int) := by omega
  clear hr ht hb hP hlP n2 nf
  go_enter Try.func56, Try.ntmps56
  go_wp2_with fail
  refine HCL.out.mono ?_
  rintro e w1 ⟨g1, p1, rfl, o1, s1⟩
  simp only [List.length_map] at o1
  have hg1 := o1.lt g1 rfl
  obtain ⟨k1, k2, k3⟩ := row_cell (j := i) (u := .int .i64 L[i]) o1 (by simp [hi])
  have o2 := row_set (j := i) o1 (.int .i64 v)
  rw [← List.map_set] at o2
  have s2 : Same (fun k => k = t) w (w1.setCell ⟨g1, i, none⟩ (.int .i64 v)) := (s1.weaken (F' := fun k => k = t) (fun _ _ h => h.elim)).setCell (p := ⟨g1, i, none⟩) (fun h => by have : g1 < w.heap.size := h; omega) _
  have h2 : (w1.setCell ⟨g1, i, none⟩ (.int .i64 v)).heap[t]? = some (headObj r c) := by
    have : (w1.setCell ⟨g1, i, none⟩ (.int .i64 v)).heap[t]? = w1.heap[t]? := Below.heap_setCell _ _ _ _ (by show t ≠ g1; omega)
    rw [this]
    exact s1.obj HT.out id
  have HLF := Lib.hid (leaf_any (lo := some ⟨g1, 0, none⟩) (n := L.length) (cap := p1) h2 ⟨hc.1, by omega⟩)
  have O2 := Lib.hid o2; have S2 := Lib.hid s2; have H2 := Lib.hid h2
  clear o1 o2 s1 s2 h2
  go_wp2_with fail
  refine HLF.out.mono ?_
  rintro e w3 ⟨b3, rfl, hb3, hn3, hh3, hs3⟩
  have hbk := back_leaf (lo := L.length) (hi := L.length) (L' := L.set i v) S2.out H2.out O2.out HP.out (by simpa using h8) (by simp) (by simp) hb3 hn3 hh3 hs3
  have HBK := Lib.hid hbk
  clear hbk hb3 hn3 hh3 hs3
  go_wp2_with fail
  go_ret
  exact HBK.out

/-- Behind a store of a new node into the row of the call's own. -/
def StP (w w2 : World) (P : Nat → Prop) (h t : Nat) (r : Value) (c : Int) (d : Nat) (K : List Kid) (g1 p1 : Nat) : Prop :=
  w2.ownsRow w.heap.size 74 1 (.slice (some ⟨g1, 0, none⟩) K.length p1) K.length (kidsV K) ∧ (∀ k ∈ K, NodeAt w2 (fun q => P q ∧ q ≠ g1) h k.b k.s k.L) ∧ w2.heap[t]? = some (headObj r (c + d)) ∧ Same (fun k => k = t) w w2

theorem kidsL_set {ks : List Kid} {j : Nat} {x y : Kid} (h : ks[j]? = some x) : kidsL (ks.set j y) = kidsL (ks.take j) ++ (y.L ++ kidsL (ks.drop (j + 1))) := by
  have hj : j < ks.length := (List.getElem?_eq_some_iff.1 h).1
  rw [List.set_eq_take_append_cons_drop, if_pos hj, kidsL_append, kidsL_cons]

theorem put_kid {w w1 w2 : World} {P : Nat → Prop} {h t g1 p1 j b s d : Nat} {r : Value} {c : Int} {ks : List Kid} {x : Kid} {L : List Int} (ht : w.heap[t]? = some (headObj r c)) (hP : ∀ k, w.heap.size ≤ k → P k) (hk : ∀ c ∈ ks, NodeAt w P h c.b c.s c.L) (hkj : ks[j]? = some x) (hA : StA w w1 ks g1 p1)
    (hn : NodeAt w2 (fun q => (P q ∧ q < w.heap.size) ∨ w1.heap.size ≤ q) h b s L) (hh : w2.heap[t]? = some (headObj r (c + d))) (hs : Same (fun k => k = t) w1 w2) :
    w2.cell? ⟨g1, j, none⟩ = some (.pointer (some ⟨x.b, 0, none⟩)) ∧ w2.frozen? ⟨g1, j, none⟩ = false ∧ g1 < w2.heap.size ∧ StP w (w2.setCell ⟨g1, j, none⟩ (.pointer (some ⟨b, 0, none⟩))) P h t r c d (ks.set j ⟨b, s, L⟩) g1 p1 := by
  obtain ⟨o1, s1⟩ := hA
  have hlt := lt_of_block ht
  have hg := o1.lt g1 rfl
  have ht1 : w1.heap[t]? = some (headObj r c) := s1.obj ht id
  have o2 := hs.row o1 (fun k hk e => by
    have : g1 = k := by simpa [Value.ownBlock] using hk
    omega)
  obtain ⟨k1, k2, k3⟩ := row_cell (j := j) (u := .pointer (some ⟨x.b, 0, none⟩)) o2 (by simp [hkj])
  have hPg : ∀ q, q < w2.heap.size → ((P q ∧ q < w.heap.size) ∨ w1.heap.size ≤ q) → (P q ∧ q ≠ g1) := fun q _ hq => by
    rcases hq with ⟨h1, h2⟩ | h1
    · exact ⟨h1, by omega⟩
    · exact ⟨hP q (by have := s1.size; omega), by omega⟩
  have sset : Same (fun k => k = g1) w2 (w2.setCell ⟨g1, j, none⟩ (.pointer (some ⟨b, 0, none⟩))) := (Same.refl (fun k => k = g1) w2).setCell (p := ⟨g1, j, none⟩) (fun _ => rfl) _
  have hnn : ∀ k : Kid, NodeAt w2 (fun q => (P q ∧ q < w.heap.size) ∨ w1.heap.size ≤ q) h k.b k.s k.L → NodeAt (w2.setCell ⟨g1, j, none⟩ (.pointer (some ⟨b, 0, none⟩))) (fun q => P q ∧ q ≠ g1) h k.b k.s k.L := fun k hk =>
    (hk.mono hPg).keep sset (fun q hq => Or.inr (fun h => h.2 hq))
  refine ⟨k1, k2, k3, ?_, fun k hkm => ?_, sset.obj hh (fun e => by omega), ((s1.weaken (fun _ _ h => h.elim)).trans hs (fun _ _ h => h)).trans sset (fun i hi e => by omega)⟩
  · have := row_set (j := j) o2 (.pointer (some ⟨b, 0, none⟩))
    have e : (kidsV ks).set j (.pointer (some ⟨b, 0, none⟩)) = kidsV (ks.set j ⟨b, s, L⟩) := by simp [kidsV, List.map_set]
    rw [e] at this
    rw [List.length_set]
    exact this
  · rcases List.mem_or_eq_of_mem_set hkm with h1 | rfl
    · exact hnn k ((node_on (hk k h1) s1).same ht1 hs)
    · exact hnn _ hn

set_option maxHeartbeats 4000000 in
theorem set_inner {h : Nat} (IH : SetAll h) : SetAll (h + 1) := by
  intro w P t b s i r c v L ht hc hn hs0 hi hL hP
  obtain ⟨h8, _, hpb, kv, ks, hs, hb, hr, hkP, rfl, hk⟩ := hn
  subst hs
  have hlb := lt_of_block hb
  have hlt := lt_of_block ht
  have hlenV : (kidsV ks).length = ks.length := by simp
  obtain ⟨kb, ko, kc, kcs, kfr, rfl, hkb, hkc⟩ := hr.where (by omega)
  rw [hlenV] at hr hb hkP hkc
  obtain ⟨n0, n1, n2, nf⟩ := node_cells hb
  have hlkb := lt_of_block hkb
  have HD := Lib.hid (down_kids (i := i) hb hr (fun c hc => (hk c hc).2) hs0 h8 hL (by omega))
  have HT := Lib.hid ht; have HP := Lib.hid hP; have HR := Lib.hid hr; have HK := Lib.hid hk
  have hkn : ¬ ((ks.length : Int) = 0) := by omega
  clear ht hr hb hP hk hkP hkb n0 n2 nf hlenV
  go_enter Try.func56, Try.ntmps56
  go_wp2_with fail
  refine HD.out.mono ?_
  rintro e w0 ⟨rfl, j, p, x, rfl, hkj, hj, hip, _, hp⟩
  have HKJ := Lib.hid hkj
  have hjj : (j : Int) < (ks.length : Int) := by omega
  have HIP := Lib.hid hip
  have hpx := hp hi
  have hx := HR.out.cell (j := j) (x := .pointer (some ⟨x.b, 0, none⟩)) (by simp [hkj])
  have HCL := Lib.hid (clonek HR.out (by simpa using hs0) (by simp; omega) (kids_one ks))
  clear hkj hip hp
  go_wp2_with fail
  refine HCL.out.mono ?_
  rintro e w1 ⟨g1, p1, rfl, o1, s1⟩
  simp only [List.length_map] at o1
  have hA : StA w w1 ks g1 p1 := ⟨o1, s1⟩
  have hg := o1.lt g1 rfl
  have n1' := (World.cell?_of_block (a := ⟨b, 1, none⟩) (s1.block b hlb id)).trans n1
  have hx' := (World.cell?_of_block (a := ⟨kb, ko + j, none⟩) (s1.block kb hlkb id)).trans hx
  have hxm := List.mem_of_getElem? HKJ.out
  have hlb1 : b < w1.heap.size := by have := s1.size; omega
  have hlkb1 : kb < w1.heap.size := by have := s1.size; omega
  have HREC := Lib.hid (IH (v := v) (i := p) (s1.obj HT.out id) ⟨hc.1, by have := hc.2; omega⟩ (node_on (HK.out x hxm).2 s1) (by have := (HK.out x hxm).1; omega) hpx (by have := kid_le hxm; omega) (fun k hk => Or.inr hk))
  have HA := Lib.hid hA
  clear o1 s1 hA n1 hx hxm
  go_wp2_with fail
  refine HREC.out.mono ?_
  rintro e w2 ⟨b2, s2, rfl, hlo, hhi, hn2, ⟨d, hd, hh⟩, hs2⟩
  obtain ⟨q1, q2, q3, hst⟩ := put_kid HT.out HP.out (fun c hc => (HK.out c hc).2) HKJ.out HA.out hn2 hh hs2
  obtain ⟨o3, hk3, hh3, hs3⟩ := hst
  have hK : kidsL (ks.set j ⟨b2, s2, x.L.set p v⟩) = (kidsL ks).set i v := by
    rw [kidsL_set HKJ.out, HIP.out, kids_split HKJ.out, List.set_append_right _ _ (by omega), Nat.add_sub_cancel_left, List.set_append_left _ _ hpx]
  have hlK : (ks.set j ⟨b2, s2, x.L.set p v⟩).length = ks.length := List.length_set
  have hk4 : ∀ k ∈ ks.set j ⟨b2, s2, x.L.set p v⟩, 4 ≤ k.s ∧ NodeAt (w2.setCell ⟨g1, j, none⟩ (.pointer (some ⟨b2, 0, none⟩))) P h k.b k.s k.L := fun k hkm => by
    refine ⟨?_, (hk3 k hkm).mono (fun q _ h => h.1)⟩
    rcases List.mem_or_eq_of_mem_set hkm with h1 | rfl
    · exact (HK.out k h1).1
    · have := (HK.out x (List.mem_of_getElem? HKJ.out)).1
      show 4 ≤ s2
      omega
  have hin := inner_any (ks := ks.set j ⟨b2, s2, x.L.set p v⟩) hh3 ⟨by omega, by omega⟩ (ownsRow_read o3) (by omega) (by omega) (fun k hkm => (hk4 k hkm).2.count) (by rw [hK, List.length_set]; omega)
  rw [hlK] at hin
  have HIN := Lib.hid hin; have O3 := Lib.hid o3; have HH3 := Lib.hid hh3; have HS3 := Lib.hid hs3; have HK4 := Lib.hid hk4; have HKL := Lib.hid hK; have HLK := Lib.hid hlK
  clear hn2 hh hs2 o3 hk3 hh3 hs3 hK hlK hk4 hin
  go_wp2_with fail
  refine HIN.out.mono ?_
  rintro e w4 ⟨b4, rfl, hb4, hn4, hh4, hs4⟩
  rw [← HLK.out] at hn4
  have hbk := back_inner (most := h + 1 + 1) (lo := ks.length) (hi := ks.length) HS3.out HH3.out O3.out HP.out (by rw [HLK.out]; exact h8) (by rw [HLK.out]; exact hs0) (by rw [HLK.out]; exact Nat.le_refl _) (by rw [HLK.out]; exact Nat.le_refl _) HKL.out HK4.out hb4 hn4 (by omega) hh4 hs4
  have HBK := Lib.hid hbk
  clear hbk hb4 hn4 hh4 hs4
  go_wp2_with fail
  go_ret
  exact HBK.out

theorem set_any : ∀ h, SetAll h
  | 0 => set_leaf
  | h + 1 => set_inner (set_any h)

end Go.Proofs.Ytelgbigpfiohfaa
