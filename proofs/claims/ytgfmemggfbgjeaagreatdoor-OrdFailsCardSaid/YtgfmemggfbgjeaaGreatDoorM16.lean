/-
  tree's nodes, written anew. Conditions: few elements, a small count of writes. tree's gathers: all elements of a node behind a row of the call's own. Conditions: few elements.
-/
import Derived.Test.YtgfmemggfbgjeaaGreatDoorM15
namespace Go.Proofs.YtgfmemggfbgjeaaGreatDoor
open Go.RowKit Go.Extern.Stop Go.Stop Go.Extern Go.Lib
set_option maxRecDepth 1000000

/-- A node is handed back. -/
def Back (w w' : World) (P : Nat → Prop) (h t : Nat) (r : Value) (c : Int) (most lo hi : Nat) (L' : List En) (e : Ending) : Prop :=
  ∃ b s, e = .returned (.pointer (some ⟨b, 0, none⟩)) ∧ lo ≤ s ∧ s ≤ hi ∧ NodeAt w' P h b s L' ∧ (∃ d : Nat, d ≤ most ∧ w'.heap[t]? = some (headObj r (c + d))) ∧ Same (fun k => k = t) w w'

theorem row_set {w : World} {B : Nat} {T : TypeId} {g n cap j : Nat} {xs : List Value} (h : w.ownsRow B T 1 (.slice (some ⟨g, 0, none⟩) n cap) n xs) (u : Value) : (w.setCell ⟨g, j, none⟩ u).ownsRow B T 1 (.slice (some ⟨g, 0, none⟩) n cap) n (xs.set j u) := by
  obtain ⟨a1, a2, a3, a4, cs, a5, a6, a7⟩ := ownsRow_open h
  refine ownsRow_shut (cs := cs.set j u) a1 a2 a3 (by rw [List.length_set]; exact a5) (by rw [← a6, List.take_set]) ?_
  have := set_at (o := j) (u := u) a7
  simpa using this

theorem row_cell {w : World} {B : Nat} {T : TypeId} {g n cap j : Nat} {xs : List Value} {u : Value} (h : w.ownsRow B T 1 (.slice (some ⟨g, 0, none⟩) n cap) n xs) (hj : xs[j]? = some u) : w.cell? ⟨g, j, none⟩ = some u ∧ w.frozen? ⟨g, j, none⟩ = false ∧ g < w.heap.size := by
  obtain ⟨a1, a2, a3, a4, cs, a5, a6, a7⟩ := ownsRow_open h
  have := (ownsRow_read h).cell hj
  rw [Nat.zero_add] at this
  exact ⟨this, by simp [World.frozen?, a7], lt_of_block a7⟩

/-- A leaf is written of a row. -/
theorem back_leaf {w w3 w' : World} {P : Nat → Prop} {t g n cap b lo hi : Nat} {r : Value} {c : Int} {L' : List En} (hs : Same (fun k => k = t) w w3) (ht : w3.heap[t]? = some (headObj r c)) (ho : w3.ownsRow w.heap.size 57 2 (.slice (some ⟨g, 0, none⟩) n cap) n (entsV L')) (hP : ∀ k, w.heap.size ≤ k → P k) (h8 : L'.length ≤ 8) (hlo : lo ≤ L'.length) (hhi : L'.length ≤ hi)
    (hb : w3.heap.size ≤ b) (hn : w'.heap[b]? = some (nodeObj (.slice (some ⟨g, 0, none⟩) n cap) (.slice none 0 0) n)) (hh : w'.heap[t]? = some (headObj r (c + 1))) (hs2 : Same (fun k => k = t) w3 w') : Back w w' P 0 t r c 1 lo hi L' (.returned (.pointer (some ⟨b, 0, none⟩))) := by
  have hr : ReadE w' _ L' := ReadZ.same (ownsRow_readZ ho) hs2 (head_only ht) (by decide)
  have hln := ReadE.len hr
  have hg := ho.lt g rfl
  refine ⟨b, L'.length, rfl, hlo, hhi, ⟨rfl, h8, hP b (by have := hs.size; omega), _, by rw [hn, hln], hr, fun k hk => ?_⟩, ⟨1, Nat.le_refl _, hh⟩, hs.trans hs2 (fun _ _ h => h)⟩
  have : g = k := by simpa [Value.ownBlock] using hk
  have := hs2.size
  exact ⟨hP k (by omega), by omega⟩

/-- A node of nodes is written of a row. -/
theorem back_inner {w w3 w' : World} {P : Nat → Prop} {h t g cap b lo hi d most : Nat} {r : Value} {c : Int} {K : List Kid} {L' : List En} (hs : Same (fun k => k = t) w w3) (ht : w3.heap[t]? = some (headObj r (c + d))) (ho : w3.ownsRow w.heap.size 109 1 (.slice (some ⟨g, 0, none⟩) K.length cap) K.length (kidsV K)) (hP : ∀ k, w.heap.size ≤ k → P k) (h8 : K.length ≤ 8) (h0 : 0 < K.length) (hlo : lo ≤ K.length) (hhi : K.length ≤ hi)
    (hK : kidsL K = L') (hk : ∀ k ∈ K, 4 ≤ k.s ∧ NodeAt w3 P h k.b k.s k.L)
    (hb : w3.heap.size ≤ b) (hn : w'.heap[b]? = some (nodeObj (.slice none 0 0) (.slice (some ⟨g, 0, none⟩) K.length cap) (kidsL K).length)) (hd : d + 1 ≤ most) (hh : w'.heap[t]? = some (headObj r (c + d + 1))) (hs2 : Same (fun k => k = t) w3 w') : Back w w' P (h + 1) t r c most lo hi L' (.returned (.pointer (some ⟨b, 0, none⟩))) := by
  have hr := (ownsRow_read ho).same hs2 (head_only ht) (by decide)
  have hg := ho.lt g rfl
  refine ⟨b, K.length, rfl, hlo, hhi, ⟨h8, h0, hP b (by have := hs.size; omega), _, K, rfl, by rw [hn, hK], hr, fun k hk => ?_, hK.symm, fun k hkm => ⟨(hk k hkm).1, (hk k hkm).2.same ht hs2⟩⟩, ⟨d + 1, hd, by rw [hh, show c + ((d + 1 : Nat) : Int) = c + d + 1 by omega]⟩, hs.trans hs2 (fun _ _ h => h)⟩
  have : g = k := by simpa [Value.ownBlock] using hk
  have := hs2.size
  exact ⟨hP k (by omega), by omega⟩

/-- Behind a store of a new node into the row of the call's own. -/
def StP (w w2 : World) (P : Nat → Prop) (h t : Nat) (r : Value) (c : Int) (d : Nat) (K : List Kid) (g1 p1 : Nat) : Prop :=
  w2.ownsRow w.heap.size 109 1 (.slice (some ⟨g1, 0, none⟩) K.length p1) K.length (kidsV K) ∧ (∀ k ∈ K, NodeAt w2 (fun q => P q ∧ q ≠ g1) h k.b k.s k.L) ∧ w2.heap[t]? = some (headObj r (c + d)) ∧ Same (fun k => k = t) w w2

theorem kidsL_set {ks : List Kid} {j : Nat} {x y : Kid} (h : ks[j]? = some x) : kidsL (ks.set j y) = kidsL (ks.take j) ++ (y.L ++ kidsL (ks.drop (j + 1))) := by
  have hj : j < ks.length := (List.getElem?_eq_some_iff.1 h).1
  rw [List.set_eq_take_append_cons_drop, if_pos hj, kidsL_append, kidsL_cons]

theorem put_kid {w w1 w2 : World} {P : Nat → Prop} {h t g1 p1 j b s d : Nat} {r : Value} {c : Int} {ks : List Kid} {x : Kid} {L : List En} (ht : w.heap[t]? = some (headObj r c)) (hP : ∀ k, w.heap.size ≤ k → P k) (hk : ∀ c ∈ ks, NodeAt w P h c.b c.s c.L) (hkj : ks[j]? = some x) (hA : StA w w1 ks g1 p1)
    (hn : NodeAt w2 (fun q => (P q ∧ q < w.heap.size) ∨ w1.heap.size ≤ q) h b s L) (hh : w2.heap[t]? = some (headObj r (c + d))) (hs : Same (fun k => k = t) w1 w2) :
    w2.cell? ⟨g1, j, none⟩ = some (.pointer (some ⟨x.b, 0, none⟩)) ∧ w2.frozen? ⟨g1, j, none⟩ = false ∧ g1 < w2.heap.size ∧ StP w (w2.setCell ⟨g1, j, none⟩ (.pointer (some ⟨b, 0, none⟩))) P h t r c d (ks.set j ⟨b, s, L⟩) g1 p1 := by
  obtain ⟨o1, s1⟩ := hA
  have hlt := lt_of_block ht
  have hg := o1.lt g1 rfl
  have ht1 : w1.heap[t]? = some (headObj r c) := s1.obj ht id
  have o2 := hs.row o1 (fun k hk e => by
    have : g1 = k := by simpa [Value.ownBlock] using hk
    omega)
  obtain ⟨k1, k2, k3⟩ := row_cell (j := j) (u := .pointer (some ⟨x.b, 0, none⟩)) o2 (by simp [hkj])
  have hPg : ∀ q, q < w2.heap.size → ((P q ∧ q < w.heap.size) ∨ w1.heap.size ≤ q) → (P q ∧ q ≠ g1) := fun q _ hq => by
    rcases hq with ⟨h1, h2⟩ | h1
    · exact ⟨h1, by omega⟩
    · exact ⟨hP q (by have := s1.size; omega), by omega⟩
  have sset : Same (fun k => k = g1) w2 (w2.setCell ⟨g1, j, none⟩ (.pointer (some ⟨b, 0, none⟩))) := (Same.refl (fun k => k = g1) w2).setCell (p := ⟨g1, j, none⟩) (fun _ => rfl) _
  have hnn : ∀ k : Kid, NodeAt w2 (fun q => (P q ∧ q < w.heap.size) ∨ w1.heap.size ≤ q) h k.b k.s k.L → NodeAt (w2.setCell ⟨g1, j, none⟩ (.pointer (some ⟨b, 0, none⟩))) (fun q => P q ∧ q ≠ g1) h k.b k.s k.L := fun k hk =>
    (hk.mono hPg).keep sset (fun q hq => Or.inr (fun h => h.2 hq))
  refine ⟨k1, k2, k3, ?_, fun k hkm => ?_, sset.obj hh (fun e => by omega), ((s1.weaken (fun _ _ h => h.elim)).trans hs (fun _ _ h => h)).trans sset (fun i hi e => by omega)⟩
  · have := row_set (j := j) o2 (.pointer (some ⟨b, 0, none⟩))
    have e : (kidsV ks).set j (.pointer (some ⟨b, 0, none⟩)) = kidsV (ks.set j ⟨b, s, L⟩) := by simp [kidsV, List.map_set]
    rw [e] at this
    rw [List.length_set]
    exact this
  · rcases List.mem_or_eq_of_mem_set hkm with h1 | rfl
    · exact hnn k ((node_on (hk k h1) s1).same ht1 hs)
    · exact hnn _ hn

end Go.Proofs.YtgfmemggfbgjeaaGreatDoor

namespace Go.Proofs.YtgfmemggfbgjeaaGreatDoor
open Go.RowKit Go.Extern.Stop Go.Stop Go.Extern Go.Lib
set_option maxRecDepth 1000000

section
variable {P : Program} {w : World}
theorem step_append_own {ops : Array Oper} {o : Oper} {a : Act} {K : Act → World → Prop} {Q : Exit → Act → World → Prop} {E : Prop} (hgd : o.guard = none) (s x : Operand) (t : TypeId)
    (ho : o.op = .call { callee := .builtin .append, args := #[s, x], argTypes := #[t, t] })
    (base : Nat) (e : TypeId) (i : TypeInfo) (z : Value) (size bytes : Nat) (ht : P.underlying t = some (.slice e)) (hi : P.info? e = some i) (hz : i.zero = some z)
    (hsize : i.size = size) (hby : i.bytes = bytes) (hzs : z.cells.size = size) (hsz : 0 < size)
    (v : Value) (n : Nat) (xs : List Value) (hs : a.eval s = v) (hown : w.ownsRow base e size v n xs)
    (ad : Addr) (m c : Nat) (news : List Value) (hx : a.eval x = .slice (some ad) m c) (hl : news.length = m * size) (hnews : ∀ j u, news[j]? = some u → w.cell? (ad.add j) = some u) (h1 : ∀ u ∈ news, u.oneCell' = true)
    (h63 : n + m ≤ maxLen) (hbytes : (n + m) * bytes ≤ 140737488355328) (hbase : base ≤ w.heap.size)
    (h : ∀ v' w', w'.ownsRow base e size v' (n + m) (xs ++ news) → w.grownBy w' v.ownBlock → (v' = .slice none 0 0 ↔ v = .slice none 0 0 ∧ m = 0) → K (a.put o.dst v') w') :
    if Region.wanted o (yielded ops a.tmps) = true then Oper.wp P o a w K Q else E := by
  have hw : Region.wanted o (yielded ops a.tmps) = true := by simp [Region.wanted, hgd]
  rw [if_pos hw]
  exact wp_append_own w s x t ho base e i z size bytes ht hi hz hsize hby hzs hsz v n xs hs hown ad m c news hx hl hnews h1 h63 hbytes hbase h
end

/-- What gathers hands back. -/
def GatherOut (B : Nat) (w w' : World) (L : List En) (e : Ending) : Prop := ∃ v, e = .returned v ∧ w'.ownsRow B 57 2 v L.length (entsV L) ∧ Same (fun k => B ≤ k) w w'

/-- What gathers is to do at nodes of height h. -/
def GatherAll (h : Nat) : Prop := ∀ {w : World} {B b s : Nat} {o : Value} {L O : List En} {f u : Int}, NodeAt w (fun q => q < B) h b s L → 0 < s → L.length ≤ 100000 → O.length + L.length ≤ 200000 → w.ownsRow B 57 2 o O.length (entsV O) → B ≤ w.heap.size → -1000000 ≤ f - L.length → f ≤ 0 → (L.length : Int) ≤ u → u ≤ 1000000 →
    Calls Tryz.prog 69 #[.pointer (some ⟨b, 0, none⟩), o, .int .i64 f, .int .i64 u] w fun e w' => GatherOut B w w' (O ++ L) e

set_option maxHeartbeats 4000000 in
theorem gather_leaf : GatherAll 0 := by
  intro w B b s o L O f u hn hs0 hL hO ho hB f0 f1 u0 u1
  obtain ⟨hs, h8, hpb, l, hb, hr, hlP⟩ := hn
  subst hs
  obtain ⟨lb, lo, lc, lcs, lfr, rfl, hlbk, hlc⟩ := ReadE.where hr (by omega)
  obtain ⟨n0, n1, n2, nf⟩ := node_cells hb
  have hlb := lt_of_block hb
  have HO := Lib.hid ho
  have HR := Lib.hid (show ∀ (w' : World), w'.heap = w.heap → ∀ j x, (entsV L)[j]? = some x → w'.cell? ((⟨lb, lo, none⟩ : Addr).add j) = some x from fun w' e j x hj => by
    rw [Addr.add_lit]
    have := ReadZ.cell hr hj
    simp only [World.cell?, e] at this ⊢
    exact this)
  have HI := Lib.hid infoi
  have HV := Lib.hid (ents_one L)
  have hmx : max f 0 = 0 := by omega
  have hmn : min u (L.length : Int) = (L.length : Int) := by omega
  have hlc2 : (L.length : Int) ≤ (lc : Int) := by omega
  have hlc3 : ¬ (lc = 0) := by omega
  clear hr hb ho hlP n2 nf hlbk
  go_enter Tryz.func69, Tryz.ntmps69
  go_wp2_with fail
  obtain ⟨i0, hi, hz, hsz, hby⟩ := HI.out
  go_region_law (refine step_append_own (w := w.drew) rfl (.tmp 17) (.tmp 31) 61 rfl B 57 i0 (.agg #[.slice none 0 0, .int .i64 0]) 2 32 rfl hi hz hsz hby rfl (by omega) o O.length (entsV O) (by simp [Act.eval, Act.put]) HO.out ⟨lb, lo, none⟩ L.length lc (entsV L) (by simp [Act.eval, Act.put]) (by rw [entsV_length]) (HR.out w.drew rfl) HV.out (by unfold maxLen; omega) (by omega) hB ?_; intro v' w1 hown hgrow hnil)
  all_goals (
    have hs : Same (fun k => B ≤ k) w w1 := by
      have h1 : Same (fun k => o.ownBlock = some k) w.drew w1 := ⟨hgrow.os, hgrow.tape, hgrow.output, hgrow.size, fun i hi hn => hgrow.block i hi (fun e => hn e.symm)⟩
      exact ((Same.refl (fun k => B ≤ k) w).drew).trans h1 (fun k hk e => (HO.out.lt k e).1)
    have hown' : w1.ownsRow B 57 2 v' (O ++ L).length (entsV (O ++ L)) := by
      rw [List.length_append, entsV_append]
      exact hown
    have HW := Lib.hid hown'; have HS := Lib.hid hs
    clear hown hown' hgrow hnil hs hi hz hsz hby i0
    go_wp2_with fail
    go_ret
    exact ⟨_, rfl, HW.out, HS.out⟩)

end Go.Proofs.YtgfmemggfbgjeaaGreatDoor
