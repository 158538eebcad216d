/-
  tree's inserted at a node of nodes; at whatever node. Conditions: few elements, a small count of writes.
-/
import Derived.Test.YtgfmemggfbgjeaaGreatDoorM14
namespace Go.Proofs.YtgfmemggfbgjeaaGreatDoor
open Go.RowKit Go.Extern.Stop Go.Stop Go.Extern Go.Lib
set_option maxRecDepth 1000000

/-- A row of the call's own, cut from an earlier world on. -/
theorem own_base {w : World} {B B' : Nat} {T : TypeId} {g n cap : Nat} {xs : List Value} (h : w.ownsRow B T 1 (.slice (some ⟨g, 0, none⟩) n cap) n xs) (hB : B' ≤ B) : w.ownsRow B' T 1 (.slice (some ⟨g, 0, none⟩) n cap) n xs := by
  obtain ⟨a1, a2, a3, a4, cs, a5, a6, a7⟩ := ownsRow_open h
  exact ownsRow_shut (by omega) a2 a3 a5 a6 a7

/-- Behind the clone. -/
def StA (w w1 : World) (ks : List Kid) (g1 p1 : Nat) : Prop := w1.ownsRow w.heap.size 109 1 (.slice (some ⟨g1, 0, none⟩) ks.length p1) ks.length (kidsV ks) ∧ Same (fun _ => False) w w1

theorem stA_of {w w0 w1 : World} {ks : List Kid} {g1 p1 : Nat} (hs0 : Same (fun _ => False) w w0) (o : w1.ownsRow w0.heap.size 109 1 (.slice (some ⟨g1, 0, none⟩) ks.length p1) ks.length (kidsV ks)) (s1 : Same (fun _ => False) w0 w1) : StA w w1 ks g1 p1 :=
  ⟨own_base o hs0.size, hs0.trans s1 (fun _ _ h => h)⟩

theorem StA.held {w w1 : World} {ks : List Kid} {g1 p1 : Nat} (h : StA w w1 ks g1 p1) (t : Nat) : Same (fun k => k = t) w w1 := h.2.weaken (fun _ _ h => h.elim)

theorem Ins.held {w w' : World} {P : Nat → Prop} {h t s : Nat} {r : Value} {c : Int} {L' : List En} {e : Ending} (hi : Ins w w' P h t r c s L' e) : Same (fun k => k = t) w w' := by
  obtain ⟨_, _, _, _, _, _, _, _, _, hs⟩ := hi
  exact hs

theorem Ins.ret {w w' : World} {P : Nat → Prop} {h t s : Nat} {r : Value} {c : Int} {L' : List En} {e : Ending} (hi : Ins w w' P h t r c s L' e) : ∃ g n cap, e = .returned (.slice (some ⟨g, 0, none⟩) n cap) := by
  obtain ⟨g, cap, ks, e, _⟩ := hi
  exact ⟨g, _, cap, e⟩

/-- Behind what is done below: the row of the call's own, the new nodes; K: all nodes then. -/
abbrev StB (w w2 : World) (P : Nat → Prop) (h t : Nat) (r : Value) (c : Int) (most : Nat) (ks : List Kid) (g1 p1 : Nat) (j j2 : Nat) (LN : List En) (e : Ending) : Prop :=
  ∃ g2 p2 new, e = .returned (.slice (some ⟨g2, 0, none⟩) (List.length new) p2) ∧ w2.ownsRow w.heap.size 109 1 (.slice (some ⟨g1, 0, none⟩) ks.length p1) ks.length (kidsV ks) ∧
    w2.ownsRow w.heap.size 109 1 (.slice (some ⟨g2, 0, none⟩) new.length p2) new.length (kidsV new) ∧ g2 ≠ g1 ∧ kidsL new = LN ∧ (∀ k ∈ ks.take j ++ new ++ ks.drop j2, 4 ≤ k.s ∧ NodeAt w2 (fun q => P q ∧ q ≠ g1) h k.b k.s k.L) ∧ 1 ≤ new.length ∧ new.length ≤ 2 ∧
    (∃ d : Nat, d ≤ most ∧ w2.heap[t]? = some (headObj r (c + d))) ∧ Same (fun k => k = t) w w2

/-- Behind Replace. -/
abbrev StC (w w3 : World) (P : Nat → Prop) (h t : Nat) (r : Value) (c : Int) (most s s' : Nat) (L' : List En) (e : Ending) : Prop :=
  ∃ g3 p3 K, e = .returned (.slice (some ⟨g3, 0, none⟩) (List.length K) p3) ∧ w3.ownsRow w.heap.size 109 1 (.slice (some ⟨g3, 0, none⟩) K.length p3) K.length (kidsV K) ∧ kidsL K = L' ∧ s ≤ K.length ∧ K.length ≤ s' ∧ (∀ k ∈ K, 4 ≤ k.s ∧ NodeAt w3 P h k.b k.s k.L) ∧
    (∃ d : Nat, d ≤ most ∧ w3.heap[t]? = some (headObj r (c + d))) ∧ Same (fun k => k = t) w w3

/-- A node in a later world, in what was there and what is new, but for a row of the call's own. -/
theorem node_on {w w1 : World} {P : Nat → Prop} {h : Nat} {k : Kid} (hn : NodeAt w P h k.b k.s k.L) (hs : Same (fun _ => False) w w1) : NodeAt w1 (fun q => (P q ∧ q < w.heap.size) ∨ w1.heap.size ≤ q) h k.b k.s k.L := by
  have h1 : NodeAt w (fun q => (P q ∧ q < w.heap.size) ∨ w1.heap.size ≤ q) h k.b k.s k.L := hn.mono (fun q hq hp => Or.inl ⟨hp, hq⟩)
  exact h1.keep hs (fun _ h => h.elim)

theorem ins_B {h : Nat} (IH : InsAll h) {w w1 : World} {P : Nat → Prop} {t g1 p1 j p : Nat} {r : Value} {c : Int} {v : En} {ks : List Kid} {x : Kid} (ht : w.heap[t]? = some (headObj r c)) (hc : 0 ≤ c ∧ c + 2 * (h + 1) ≤ 800000000) (hP : ∀ k, w.heap.size ≤ k → P k)
    (hk : ∀ c ∈ ks, 4 ≤ c.s ∧ NodeAt w P h c.b c.s c.L) (hkj : ks[j]? = some x) (hp : p ≤ x.L.length) (hL : (kidsL ks).length ≤ 100000) (hA : StA w w1 ks g1 p1) :
    Calls Tryz.prog 58 #[.pointer (some ⟨t, 0, none⟩), .pointer (some ⟨x.b, 0, none⟩), .int .i64 p, v.agg] w1 fun e w2 => StB w w2 P h t r c (2 * (h + 1)) ks g1 p1 j (j + 1) (x.L.take p ++ v :: x.L.drop p) e := by
  obtain ⟨o1, s1⟩ := hA
  have hg := o1.lt g1 rfl
  have hxm := List.mem_of_getElem? hkj
  have ht1 : w1.heap[t]? = some (headObj r c) := s1.obj ht id
  have hlt := lt_of_block ht
  refine (IH ht1 hc (node_on (hk x hxm).2 s1) (by have := (hk x hxm).1; omega) hp (by have := kid_le hxm; omega) (fun k hk => Or.inr hk)).mono ?_
  rintro e w2 ⟨g2, p2, new, rfl, o2, e2, n2, s2, ⟨d, hd, hh⟩, hs2⟩
  have hg2 := o2.lt g2 rfl
  have hPg : ∀ q, q < w2.heap.size → ((P q ∧ q < w.heap.size) ∨ w1.heap.size ≤ q) → (P q ∧ q ≠ g1) := fun q _ hq => by
    rcases hq with ⟨h1, h2⟩ | h1
    · exact ⟨h1, by omega⟩
    · exact ⟨hP q (by have := s1.size; omega), by omega⟩
  refine ⟨g2, p2, new, rfl, hs2.row o1 (fun k hk e => ?_), own_base o2 s1.size, by omega, e2, fun k hkm => ?_, ?_, ?_, ⟨d, hd, hh⟩, (s1.weaken (fun _ _ h => h.elim)).trans hs2 (fun _ _ h => h)⟩
  · have : g1 = k := by simpa [Value.ownBlock] using hk
    omega
  · have old : ∀ k ∈ ks, 4 ≤ k.s ∧ NodeAt w2 (fun q => P q ∧ q ≠ g1) h k.b k.s k.L := fun k hk' => ⟨(hk k hk').1, ((node_on (hk k hk').2 s1).same ht1 hs2).mono hPg⟩
    rcases List.mem_append.1 hkm with hkm | hkm
    · rcases List.mem_append.1 hkm with hkm | hkm
      · exact old k (List.mem_of_mem_take hkm)
      · refine ⟨?_, (n2 k hkm).mono hPg⟩
        rcases s2 with ⟨a, rfl, ha⟩ | ⟨a, b, rfl, ha, hb⟩
        · simp only [List.mem_singleton] at hkm
          subst hkm
          have := (hk x hxm).1
          omega
        · simp only [List.mem_cons, List.not_mem_nil, or_false] at hkm
          rcases hkm with rfl | rfl <;> assumption
    · exact old k (List.mem_of_mem_drop hkm)
  · rcases s2 with ⟨a, rfl, ha⟩ | ⟨a, b, rfl, ha, hb⟩ <;> simp
  · rcases s2 with ⟨a, rfl, ha⟩ | ⟨a, b, rfl, ha, hb⟩ <;> simp

theorem rep_C {w w2 : World} {P : Nat → Prop} {h t g1 p1 g2 p2 j j2 most : Nat} {r : Value} {c : Int} {ks new : List Kid} {LN : List En} (hlt : t < w.heap.size) (hj : j < j2) (hj2 : j2 ≤ ks.length) (h8 : ks.length ≤ 8)
    (o1 : w2.ownsRow w.heap.size 109 1 (.slice (some ⟨g1, 0, none⟩) ks.length p1) ks.length (kidsV ks)) (o2 : w2.ownsRow w.heap.size 109 1 (.slice (some ⟨g2, 0, none⟩) new.length p2) new.length (kidsV new)) (hne : g2 ≠ g1) (hLN : kidsL new = LN)
    (hk : ∀ k ∈ ks.take j ++ new ++ ks.drop j2, 4 ≤ k.s ∧ NodeAt w2 (fun q => P q ∧ q ≠ g1) h k.b k.s k.L) (hn1 : 1 ≤ new.length) (hn2 : new.length ≤ 2) {d : Nat} (hd : d ≤ most) (hh : w2.heap[t]? = some (headObj r (c + d))) (hs : Same (fun k => k = t) w w2) :
    Calls Tryz.prog 81 #[.slice (some ⟨g1, 0, none⟩) ks.length p1, .int .i64 j, .int .i64 j2, .slice (some ⟨g2, 0, none⟩) new.length p2] w2 fun e w3 => StC w w3 P h t r c most (ks.length - (j2 - j) + 1) (ks.length - (j2 - j) + 2) (kidsL (ks.take j) ++ (LN ++ kidsL (ks.drop j2))) e := by
  have hg := o1.lt g1 rfl
  refine (replace_any o1 hs.size (by omega) (by omega) hj hj2 (by omega) (kids_one ks) o2 (kids_one new) hne).mono ?_
  rintro e w3 ⟨g3, p3, rfl, o3, s3⟩
  have e3 : (kidsV ks).take j ++ kidsV new ++ (kidsV ks).drop j2 = kidsV (ks.take j ++ new ++ ks.drop j2) := by
    simp [kidsV, List.map_append, List.map_take, List.map_drop]
  have el : (ks.take j ++ new ++ ks.drop j2).length = j + new.length + (ks.length - j2) := by
    rw [List.length_append, List.length_append, List.length_take, List.length_drop]
    omega
  rw [e3, ← el] at o3
  refine ⟨g3, p3, ks.take j ++ new ++ ks.drop j2, by rw [el], o3, by rw [kidsL_append, kidsL_append, hLN, List.append_assoc], by omega, by omega, fun k hkm => ⟨(hk k hkm).1, ?_⟩, ⟨d, hd, s3.obj hh (fun e => by omega)⟩, hs.trans s3 (fun i hi e => by omega)⟩
  exact ((hk k hkm).2.keep s3 (fun q hq => Or.inr (fun h => h.2 hq))).mono (fun q _ h => h.1)

theorem ins_D {w w3 : World} {P : Nat → Prop} {h t g3 p3 most s d : Nat} {r : Value} {c : Int} {K : List Kid} {L' : List En} (hc : 0 ≤ c ∧ c + most ≤ 800000000) (hm : most ≤ 2 * (h + 1)) (hP : ∀ k, w.heap.size ≤ k → P k) (hL : L'.length ≤ 200000)
    (o3 : w3.ownsRow w.heap.size 109 1 (.slice (some ⟨g3, 0, none⟩) K.length p3) K.length (kidsV K)) (hK : kidsL K = L') (h1 : s ≤ K.length) (h0 : 0 < K.length) (h16 : K.length ≤ 16) (hk : ∀ k ∈ K, 4 ≤ k.s ∧ NodeAt w3 P h k.b k.s k.L)
    (hd : d ≤ most) (hh : w3.heap[t]? = some (headObj r (c + d))) (hs : Same (fun k => k = t) w w3) :
    Calls Tryz.prog 80 #[.pointer (some ⟨t, 0, none⟩), .slice (some ⟨g3, 0, none⟩) K.length p3] w3 fun e w4 => Ins w w4 P (h + 1) t r c s L' e := by
  refine (inners_any (P := P) hh ⟨by omega, by omega⟩ (ownsRow_read o3) h0 h16 (fun k hk => hP k (o3.lt k hk).1) (fun k hk => hP k (by have := hs.size; omega)) hk (by rw [hK]; omega)).mono ?_
  rintro e w4 ⟨g4, p4, ks4, rfl, o4, m4, h4, s4⟩
  rw [hK] at m4
  exact ins_of_made hs o4 m4 h1 h4 (by omega) s4

theorem ins_from {w0 w w' : World} {P : Nat → Prop} {h t s : Nat} {r : Value} {c : Int} {L' : List En} {e : Ending} (hs : Same (fun _ => False) w0 w) (hi : Ins w w' P h t r c s L' e) : Ins w0 w' P h t r c s L' e := by
  obtain ⟨g, p, ks, h1, h2, h3, h4, h5, h6, h7⟩ := hi
  exact ⟨g, p, ks, h1, own_base2 h2 hs.size, h3, h4, h5, h6, (hs.weaken (fun _ _ h => h.elim)).trans h7 (fun _ _ h => h)⟩

set_option maxHeartbeats 4000000 in
theorem inserted_inner {h : Nat} (IH : InsAll h) : InsAll (h + 1) := by
  intro w0 P t b s i r c v L ht0 hc hn0 hs0 hi hL hP0
  obtain ⟨w, hw⟩ : ∃ w, w = w0.alloc (.cells #[.slice v.ao v.n v.cap, .int .i64 v.id] 57) := ⟨_, rfl⟩
  have hsb : Same (fun _ => False) w0 w := by rw [hw]; exact (Same.refl _ w0).alloc _
  have ht := hsb.obj ht0 id
  have hn := hn0.keep hsb (fun _ h => h.elim)
  have hP : ∀ k, w.heap.size ≤ k → P k := fun k hk => hP0 k (by have := hsb.size; omega)
  have hbb : w.heap[w0.heap.size]? = some (.cells #[.slice v.ao v.n v.cap, .int .i64 v.id] 57 (0, 0)) := by rw [hw]; exact heap_alloc_new _ _
  have hxt : w0.heap.size ≠ t := by have := lt_of_block ht0; omega
  have hbx : ∀ (W : World), Same (fun k => k = t) w W → W.cell? ⟨w0.heap.size, 0, none⟩ = some (.slice v.ao v.n v.cap) ∧ W.cell? ⟨w0.heap.size, 1, none⟩ = some (.int .i64 v.id) := fun W h => by
    have h2 := h.obj hbb hxt
    exact ⟨by simp [World.cell?, h2], by simp [World.cell?, h2]⟩
  have hxl := lt_of_block hbb
  have HSB := Lib.hid hsb; have HW := Lib.hid hw; have HBX := Lib.hid hbx
  clear ht0 hn0 hP0 hsb hw hbb hbx
  obtain ⟨h8, _, hpb, kv, ks, hs, hb, hr, hkP, rfl, hk⟩ := hn
  subst hs
  have hlb := lt_of_block hb
  have hlt := lt_of_block ht
  have hlenV : (kidsV ks).length = ks.length := by simp
  obtain ⟨kb, ko, kc, kcs, kfr, rfl, hkb, hkc⟩ := hr.where (by omega)
  rw [hlenV] at hr hb hkP hkc
  obtain ⟨n0, n1, n2, nf⟩ := node_cells hb
  have hlkb := lt_of_block hkb
  have HD := Lib.hid (down_kids (i := i) hb hr (fun c hc => (hk c hc).2) hs0 h8 hL (by omega))
  have hbt : b ≠ t := fun e => by rw [e, ht] at hb; simp at hb
  have hkbt : kb ≠ t := fun e => by rw [e, ht] at hkb; simp at hkb
  have HT := Lib.hid ht; have HP := Lib.hid hP; have HR := Lib.hid hr; have HK := Lib.hid hk
  have hkn : ¬ ((ks.length : Int) = 0) := by omega
  clear ht hr hb hP hk hkP hkb n0 n2 nf hlenV
  go_enter Tryz.func58, Tryz.ntmps58
  go_upto_region 1 with fail
  rw [← HW.out]
  go_wp2_with fail
  refine HD.out.mono ?_
  rintro e w9 ⟨rfl, j, p, x, rfl, hkj, hj, hip, hp, _⟩
  have HKJ := Lib.hid hkj
  have hjj : (j : Int) < (ks.length : Int) := by omega
  have hx := HR.out.cell (j := j) (x := .pointer (some ⟨x.b, 0, none⟩)) (by simp [hkj])
  have HIP := Lib.hid hip
  have hpx := hp hi
  have HKEEP := Lib.hid (show ∀ w', Same (fun k => k = t) w w' → w'.cell? ⟨b, 1, none⟩ = some (.slice (some ⟨kb, ko, none⟩) ks.length kc) ∧ w'.cell? ⟨kb, ko + j, none⟩ = some (.pointer (some ⟨x.b, 0, none⟩)) ∧ w'.cell? ⟨w0.heap.size, 0, none⟩ = some (.slice v.ao v.n v.cap) ∧ w'.cell? ⟨w0.heap.size, 1, none⟩ = some (.int .i64 v.id) from fun w' hs =>
    ⟨(World.cell?_of_block (a := ⟨b, 1, none⟩) (hs.block b hlb hbt)).trans n1, (World.cell?_of_block (a := ⟨kb, ko + j, none⟩) (hs.block kb hlkb hkbt)).trans hx, HBX.out w' hs⟩)
  have hx := And.intro hx (HBX.out w (Same.refl _ _))
  have HS0 := Lib.hid (Same.refl (fun _ => False) w)
  have HCL := Lib.hid (fun (w1 : World) (hs : Same (fun _ => False) w w1) => clonek (HR.out.kept hs (fun _ _ => id)) (by simpa using hs0) (by simp; omega) (kids_one ks))
  have HB := Lib.hid (fun (w1 : World) (g1 p1 : Nat) (hA : StA w w1 ks g1 p1) => ins_B (v := v) IH HT.out ⟨hc.1, by have := hc.2; omega⟩ HP.out HK.out HKJ.out hpx hL hA)
  have hLL : (kidsL (ks.take j) ++ ((x.L.take p ++ v :: x.L.drop p) ++ kidsL (ks.drop (j + 1)))) = (kidsL ks).take i ++ v :: (kidsL ks).drop i := by
    rw [kids_split hkj, hip]
    exact (insert_split _ _ _ _ _ hpx).symm
  have HLL := Lib.hid hLL
  have hjw : IntKind.i64.wrap ((j : Int) + 1) = (j : Int) + 1 := by rw [IntKind.wrap_i64]; omega
  have hj9 : (j : Int) < 9 := by omega
  have HJL := Lib.hid (show j < j + 1 by omega); have HJS := Lib.hid (show j + 1 ≤ ks.length by omega); have HJ1 := Lib.hid (show ((j + 1 : Nat) : Int) = (j : Int) + 1 by omega)
  clear hkj hip hp hLL
  go_wp2_with fail
  go_region_held3 (fun w' => w'.cell? ⟨b, 1, none⟩ = some (.slice (some ⟨kb, ko, none⟩) ks.length kc) ∧ w'.cell? ⟨kb, ko + j, none⟩ = some (.pointer (some ⟨x.b, 0, none⟩)) ∧ w'.cell? ⟨w0.heap.size, 0, none⟩ = some (.slice v.ao v.n v.cap) ∧ w'.cell? ⟨w0.heap.size, 1, none⟩ = some (.int .i64 v.id))
    (first | exact ⟨n1, hx⟩ | exact ⟨k11, k12⟩ | exact ⟨k21, k22⟩ | exact ⟨k31, k32⟩ | exact ⟨k41, k42⟩)
    (first
      | (go_at_call 82; with_reducible refine (HCL.out _ ?_).mono ?_; (focus (first | exact HS0.out | exact HS0.out.drew)); rintro e w1 ⟨g1, p1, rfl, o1, s1⟩; simp only [List.length_map] at o1; have A1 := Lib.hid (stA_of (w := w) (by first | exact HS0.out | exact HS0.out.drew) o1 s1); have k11 := (HKEEP.out w1 (A1.out.held t)).1; have k12 := (HKEEP.out w1 (A1.out.held t)).2; clear o1 s1)
      | (go_at_call 58; with_reducible refine (HB.out _ g1 p1 ?_).mono ?_; (focus (first | exact A1.out)); rintro e w2 ⟨g2, p2, new, rfl, o1, o2, hne, hLN, hkk, hn1, hn2, ⟨d, hd, hh⟩, hs2⟩; have k21 := (HKEEP.out w2 hs2).1; have k22 := (HKEEP.out w2 hs2).2; have c2 := rep_C hlt HJL.out HJS.out h8 o1 o2 hne hLN hkk hn1 hn2 hd hh hs2; rw [HJ1.out] at c2; have C2 := Lib.hid c2; clear c2 o1 o2 hne hLN hkk hn1 hn2 hd hh hs2)
      | (go_at_call 81; with_reducible refine C2.out.mono ?_; rintro e w3 ⟨g3, p3, K, rfl, o3, hK, hk1, hk2, hkk, ⟨d, hd, hh⟩, hs3⟩; have k31 := (HKEEP.out w3 hs3).1; have k32 := (HKEEP.out w3 hs3).2; rw [HLL.out] at hK; have D3 := Lib.hid (ins_D ⟨hc.1, by have := hc.2; omega⟩ (Nat.le_refl _) HP.out (by simp; omega) o3 hK (s := ks.length) (by omega) (by omega) (by omega) hkk hd hh hs3); clear o3 hK hk1 hk2 hkk hd hh hs3)
      | (go_at_call 80; with_reducible refine D3.out.mono ?_; rintro e w4 hin; obtain ⟨g4, n4, p4, rfl⟩ := hin.ret; have k41 := (HKEEP.out w4 hin.held).1; have k42 := (HKEEP.out w4 hin.held).2; have HIN := Lib.hid hin; clear hin))
  go_wp2_with fail
  go_ret
  exact ins_from HSB.out HIN.out

theorem inserted_any : ∀ h, InsAll h
  | 0 => fun ht hc hn hs hi _ hP => inserted_leaf ht ⟨hc.1, by have := hc.2; omega⟩ hn hs hi hP
  | h + 1 => inserted_inner (inserted_any h)

end Go.Proofs.YtgfmemggfbgjeaaGreatDoor
