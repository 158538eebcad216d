/-
  A tree as a whole: Len, InsertAt, At. Conditions: few elements, a small count of writes.
-/
import Derived.Test.YtgfmemggfbgjeaaGreatDoorM21
namespace Go.Proofs.YtgfmemggfbgjeaaGreatDoor
open Go.RowKit Go.Extern.Stop Go.Stop Go.Extern Go.Lib
set_option maxRecDepth 1000000

/-- A tree's height is low. -/
def Low (n h : Nat) : Prop := h = 0 ∨ 2 * 4 ^ h ≤ n

/-- In world w the tree at t has this list; so many nodes were written; what it is made of lies in blocks of P. -/
def TreeIs (w : World) (P : Nat → Prop) (t : Nat) (L : List En) (c : Int) : Prop :=
  P t ∧ ((L = [] ∧ w.heap[t]? = some (headObj (.pointer none) c)) ∨ ∃ h b s, w.heap[t]? = some (headObj (.pointer (some ⟨b, 0, none⟩)) c) ∧ NodeAt w P h b s L ∧ 0 < s ∧ (h ≠ 0 → 2 ≤ s))

theorem TreeIs.head {w : World} {P : Nat → Prop} {t : Nat} {L : List En} {c : Int} (h : TreeIs w P t L c) : ∃ r, w.heap[t]? = some (headObj r c) := by
  rcases h.2 with ⟨_, h⟩ | ⟨_, _, _, h, _⟩
  · exact ⟨_, h⟩
  · exact ⟨_, h⟩

theorem TreeIs.keep {w w' : World} {P F : Nat → Prop} {t : Nat} {L : List En} {c : Int} (h : TreeIs w P t L c) (hs : Same F w w') (hF : ∀ k, F k → ¬ P k) : TreeIs w' P t L c := by
  refine ⟨h.1, ?_⟩
  rcases h.2 with ⟨e, hh⟩ | ⟨n, b, s, hh, hn, h0, h2⟩
  · exact Or.inl ⟨e, hs.obj hh (fun hf => hF t hf h.1)⟩
  · exact Or.inr ⟨n, b, s, hs.obj hh (fun hf => hF t hf h.1), hn.keep hs (fun k hk => Or.inr (hF k hk)), h0, h2⟩

theorem TreeIs.mono {w : World} {P Q : Nat → Prop} {t : Nat} {L : List En} {c : Int} (h : TreeIs w P t L c) (hPQ : ∀ k, k < w.heap.size → P k → Q k) : TreeIs w Q t L c := by
  obtain ⟨r, hr⟩ := h.head
  refine ⟨hPQ t (lt_of_block hr) h.1, ?_⟩
  rcases h.2 with h | ⟨n, b, s, hh, hn, h0, h2⟩
  · exact Or.inl h
  · exact Or.inr ⟨n, b, s, hh, hn.mono hPQ, h0, h2⟩

theorem NodeAt.big {w : World} {P : Nat → Prop} : ∀ {h b s : Nat} {L : List En}, NodeAt w P h b s L → s * 4 ^ h ≤ L.length
  | 0, b, s, L, ⟨e, _⟩ => by omega
  | h + 1, b, s, L, ⟨_, _, _, k, ks, e, _, _, _, eL, hk⟩ => by
    subst e eL
    have : ∀ ks : List Kid, (∀ c ∈ ks, 4 ≤ c.s ∧ NodeAt w P h c.b c.s c.L) → ks.length * 4 ^ (h + 1) ≤ (kidsL ks).length := by
      intro ks
      induction ks with
      | nil => intro _; simp
      | cons c ks ih =>
        intro hk
        obtain ⟨h4, hn⟩ := hk c (List.mem_cons_self ..)
        have h1 := NodeAt.big hn
        have h2 := ih (fun c hc => hk c (List.mem_cons_of_mem _ hc))
        have h3 : 4 * 4 ^ h ≤ c.s * 4 ^ h := Nat.mul_le_mul_right _ h4
        rw [kidsL_cons, List.length_append, List.length_cons, Nat.add_mul, Nat.one_mul]
        have h5 : 4 ^ (h + 1) = 4 * 4 ^ h := by rw [Nat.pow_succ, Nat.mul_comm]
        omega
    exact this ks hk

theorem low_of {w : World} {P : Nat → Prop} {h b s : Nat} {L : List En} (hn : NodeAt w P h b s L) (h2 : h ≠ 0 → 2 ≤ s) : Low L.length h := by
  by_cases h0 : h = 0
  · exact Or.inl h0
  · right
    exact Nat.le_trans (Nat.mul_le_mul_right _ (h2 h0)) hn.big

theorem low_small {n h : Nat} (hl : Low n h) (hn : n ≤ 100000) : h ≤ 8 := by
  rcases hl with h0 | h0
  · omega
  · rcases Nat.lt_or_ge 8 h with h9 | h9
    · have : 4 ^ 9 ≤ 4 ^ h := Nat.pow_le_pow_right (by omega) h9
      have e : (4 : Nat) ^ 9 = 262144 := by decide
      omega
    · exact h9

theorem head_set {w : World} {t : Nat} {r r' : Value} {c : Int} (h : w.heap[t]? = some (headObj r c)) : (w.setCell ⟨t, 0, none⟩ r').heap[t]? = some (headObj r' c) := by
  have := set_at (o := 0) (u := r') h
  simpa using this

theorem tree_len {w : World} {P : Nat → Prop} {t : Nat} {L : List En} {c : Int} (h : TreeIs w P t L c) : Calls Tryz.prog 38 #[.pointer (some ⟨t, 0, none⟩)] w fun e w' => e = .returned (.int .i64 L.length) ∧ w = w' := by
  rcases h.2 with ⟨rfl, hh⟩ | ⟨n, b, s, hh, hn, _⟩
  · exact len_none hh
  · obtain ⟨l, k, hb⟩ := hn.count
    exact len_any hh hb

/-- The tree's list turned; some nodes were written. -/
def TreeGot (w w' : World) (P : Nat → Prop) (t : Nat) (L L' : List En) (c : Int) : Prop :=
  (∃ d h : Nat, Low L.length h ∧ d ≤ 3 * h + 3 ∧ TreeIs w' P t L' (c + d)) ∧ Same (fun k => k = t) w w'

theorem got_from {w0 w w' : World} {P : Nat → Prop} {t : Nat} {L L' : List En} {c : Int} (hs : Same (fun _ => False) w0 w) (h : TreeGot w w' P t L L' c) : TreeGot w0 w' P t L L' c :=
  ⟨h.1, (hs.weaken (fun _ _ h => h.elim)).trans h.2 (fun _ _ h => h)⟩

set_option maxHeartbeats 8000000 in
theorem tree_insert {w0 : World} {P : Nat → Prop} {t i : Nat} {L : List En} {c : Int} {v : En} (h0' : TreeIs w0 P t L c) (hP0 : ∀ k, w0.heap.size ≤ k → P k) (hc : 0 ≤ c ∧ c ≤ 700000000) (hL : L.length ≤ 90000) (hi : i ≤ L.length) :
    Calls Tryz.prog 35 #[.pointer (some ⟨t, 0, none⟩), .int .i64 i, v.agg] w0 fun e w' => e = .returned (.int .i64 0) ∧ TreeGot w0 w' P t L (L.take i ++ v :: L.drop i) c := by
  obtain ⟨w, hw⟩ : ∃ w, w = w0.alloc (.cells #[.slice v.ao v.n v.cap, .int .i64 v.id] 57) := ⟨_, rfl⟩
  have hsb : Same (fun _ => False) w0 w := by rw [hw]; exact (Same.refl _ w0).alloc _
  have h := h0'.keep hsb (fun _ h => h.elim)
  have hP : ∀ k, w.heap.size ≤ k → P k := fun k hk => hP0 k (by have := hsb.size; omega)
  have hbb : w.heap[w0.heap.size]? = some (.cells #[.slice v.ao v.n v.cap, .int .i64 v.id] 57 (0, 0)) := by rw [hw]; exact heap_alloc_new _ _
  obtain ⟨rr, hrr⟩ := h0'.head
  have hxt : w0.heap.size ≠ t := by have := lt_of_block hrr; omega
  have hbx : ∀ (W : World), Same (fun k => k = t) w W → W.cell? ⟨w0.heap.size, 0, none⟩ = some (.slice v.ao v.n v.cap) ∧ W.cell? ⟨w0.heap.size, 1, none⟩ = some (.int .i64 v.id) := fun W h => by
    have h2 := h.obj hbb hxt
    exact ⟨by simp [World.cell?, h2], by simp [World.cell?, h2]⟩
  have hxl := lt_of_block hbb
  have HSB := Lib.hid hsb; have HW := Lib.hid hw; have HBX := Lib.hid hbx
  obtain ⟨x0, x1⟩ := hbx w (Same.refl _ _)
  clear h0' hP0 hsb hw hbb hbx hrr
  have HLEN := Lib.hid (tree_len h)
  have hii : (i : Int) ≤ (L.length : Int) := by omega
  have HTI := Lib.hid h
  rcases h.2 with ⟨rfl, hh⟩ | ⟨n, b, s, hh, hn, h0, h2⟩
  · obtain ⟨g0, g1, gf⟩ := head_cells hh
    have hlt := lt_of_block hh
    have hi0 : i = 0 := by simpa using hi
    subst hi0
    have hta : (w.alloc (.cells #[.slice v.ao v.n v.cap, .int .i64 v.id] 57)).heap[t]? = some (headObj (.pointer none) c) := ((Same.refl (fun _ => False) w).alloc _).obj hh id
    have hrow : (w.alloc (.cells #[.slice v.ao v.n v.cap, .int .i64 v.id] 57)).heap[w.heap.size]? = some (.cells #[.slice v.ao v.n v.cap, .int .i64 v.id] 57 (0, 0)) := heap_alloc_new _ _
    have HLF := Lib.hid (leaf_any (lo := some ⟨w.heap.size, 0, none⟩) (n := 1) (cap := 1) hta ⟨hc.1, by omega⟩)
    have HH := Lib.hid hh; have HTA := Lib.hid hta; have HROW := Lib.hid hrow; have HP := Lib.hid hP; have HPT := Lib.hid h.1
    clear h hh g1 gf hta hrow
    go_enter Tryz.func35, Tryz.ntmps35
    go_upto_region 1 with fail
    rw [← HW.out]
    go_wp2_with (first | (go_at_call 38; refine HLEN.out.mono ?_; rintro e w9 ⟨rfl, rfl⟩))
    refine HLF.out.mono ?_
    rintro e w2 ⟨b, rfl, hb, hbn, hbh, hs2⟩
    have hlt2 := lt_of_block hbh
    obtain ⟨k0, k1, kf⟩ := head_cells hbh
    have kf0 := kf 0
    have HB := Lib.hid hb; have HBN := Lib.hid hbn; have HBH := Lib.hid hbh; have HS2 := Lib.hid hs2
    clear hb hbn hbh hs2 k1 kf
    go_wp2_with fail
    go_ret
    have hszA : (w.alloc (.cells #[.slice v.ao v.n v.cap, .int .i64 v.id] 57)).heap.size = w.heap.size + 1 := by simp
    have hs0 : Same (fun k => k = t) w w2 := ((Same.refl (fun k => k = t) w).alloc _).trans HS2.out (fun _ _ h => h)
    have hs3 : Same (fun k => k = t) w2 (w2.setCell ⟨t, 0, none⟩ (.pointer (some ⟨b, 0, none⟩))) := (Same.refl (fun k => k = t) w2).setCell (p := ⟨t, 0, none⟩) (fun _ => rfl) _
    refine ⟨rfl, got_from HSB.out ⟨⟨1, 0, Or.inl rfl, by omega, HPT.out, Or.inr ⟨0, b, 1, head_set HBH.out, NodeAt.same HBH.out hs3 ⟨rfl, by omega, HP.out b (by have := HB.out; omega), _, HBN.out, ?_, fun k hk => ?_⟩, by omega, fun h => absurd rfl h⟩⟩, hs0.trans hs3 (fun _ _ h => h)⟩⟩
    · refine ⟨_, 1, 1, rfl, rfl, fun j x hj => ⟨w.heap.size, 0, #[.slice v.ao v.n v.cap, .int .i64 v.id], (0, 0), rfl, HS2.out.obj HROW.out (fun e => by have := lt_of_block HH.out; omega), ?_⟩, by simp⟩
      have := HS2.out.obj HROW.out (fun e => by have := lt_of_block HH.out; omega)
      match j with
      | 0 => cases hj; simp only [World.cell?, this]; rfl
      | 1 => cases hj; simp only [World.cell?, this]; rfl
      | j + 2 => cases hj
    · have : w.heap.size = k := by simpa [Value.ownBlock] using hk
      have := HS2.out.size
      exact ⟨HP.out k (by omega), by omega⟩
  · obtain ⟨g0, g1, gf⟩ := head_cells hh
    have hlt := lt_of_block hh
    have hlow := low_of hn h2
    have h8 := low_small hlow (by omega)
    have HREC := Lib.hid (fun (W : World) (hsW : Same (fun _ => False) w W) => inserted_any n (v := v) (i := i) (hsW.obj hh id) ⟨by omega, by omega⟩ (hn.keep hsW (fun _ h => h.elim)) h0 hi (by omega) (fun k hk => hP k (by have := hsW.size; omega)))
    have HS0 := Lib.hid (Same.refl (fun _ => False) w)
    have HH := Lib.hid hh; have HLOW := Lib.hid hlow; have HP := Lib.hid hP; have H2 := Lib.hid h2; have HPT := Lib.hid h.1
    clear h hh hn g1 gf hlow h2
    go_enter Tryz.func35, Tryz.ntmps35
    go_upto_region 1 with fail
    rw [← HW.out]
    go_wp2_with (first | (go_at_call 38; refine HLEN.out.mono ?_; rintro e w9 ⟨rfl, rfl⟩))
    go_region_with (first | (go_at_call 58; refine (HREC.out _ (by first | exact HS0.out | exact HS0.out.drew)).mono ?_; rintro e w1 hins; obtain ⟨g, cap, ks, rfl, o1, hkl, hk1, hsz, ⟨d, hd, hh1⟩, hs1⟩ := ins_from (by first | exact HS0.out | exact HS0.out.drew) hins; clear hins))
    all_goals (
      have hlt1 := lt_of_block hh1
      have htg : t ≠ g := fun e => by have := (o1.lt g rfl).1; omega
      obtain ⟨q0, q1, qf⟩ := head_cells hh1
      have qf0 := qf 0
      rcases hsz with ⟨k, rfl, hks⟩ | ⟨x, y, rfl, hxs, hys⟩
      · obtain ⟨u1, u2, u3⟩ := row_cell (j := 0) (u := .pointer (some ⟨k.b, 0, none⟩)) o1 rfl
        have hkn := hk1 k (List.mem_singleton.2 rfl)
        have hkl' : k.L = L.take i ++ v :: L.drop i := by rw [← hkl, kidsL_cons, kidsL_nil, List.append_nil]
        have hs3 : Same (fun k => k = t) w1 (w1.setCell ⟨t, 0, none⟩ (.pointer (some ⟨k.b, 0, none⟩))) := (Same.refl (fun k => k = t) w1).setCell (p := ⟨t, 0, none⟩) (fun _ => rfl) _
        have hfin : TreeGot w (w1.setCell ⟨t, 0, none⟩ (.pointer (some ⟨k.b, 0, none⟩))) P t L (L.take i ++ v :: L.drop i) c :=
          ⟨⟨d, n, HLOW.out, by omega, HPT.out, Or.inr ⟨n, k.b, k.s, head_set hh1, by rw [← hkl']; exact hkn.same hh1 hs3, by omega, fun h => by have := H2.out h; omega⟩⟩, hs1.trans hs3 (fun _ _ h => h)⟩
        have HF := Lib.hid hfin
        clear o1 hkl hk1 hh1 hs1 hkn hs3 hfin q1 qf u2 hkl'
        go_wp2_with fail
        go_ret
        exact ⟨rfl, got_from HSB.out HF.out⟩
      · obtain ⟨u1, u2, u3⟩ := row_cell (j := 0) (u := .pointer (some ⟨x.b, 0, none⟩)) o1 rfl
        have hs3 : Same (fun k => k = t) w1 (w1.setCell ⟨t, 0, none⟩ (.pointer (some ⟨x.b, 0, none⟩))) := (Same.refl (fun k => k = t) w1).setCell (p := ⟨t, 0, none⟩) (fun _ => rfl) _
        have hh3 := head_set (r' := .pointer (some ⟨x.b, 0, none⟩)) hh1
        have o3 := hs3.row o1 (fun k hk e => by have : g = k := by simpa [Value.ownBlock] using hk
                                                omega)
        have hk3 : ∀ k ∈ [x, y], 4 ≤ k.s ∧ NodeAt (w1.setCell ⟨t, 0, none⟩ (.pointer (some ⟨x.b, 0, none⟩))) P n k.b k.s k.L := fun k hk => by
          refine ⟨?_, (hk1 k hk).same hh1 hs3⟩
          simp only [List.mem_cons, List.not_mem_nil, or_false] at hk
          rcases hk with rfl | rfl <;> assumption
        have hin := inner_of hh3 ⟨by omega, by omega⟩ o3 rfl (by simp) (by simp) hk3 (by rw [hkl]; simp; omega)
        have hgb := o1.lt g rfl
        have HIN := Lib.hid hin; have HK3 := Lib.hid hk3; have O3 := Lib.hid o3; have HH3 := Lib.hid hh3; have HKL := Lib.hid hkl; have HS := Lib.hid (hs1.trans hs3 (fun _ _ h => h))
        clear o1 hkl hk1 hh1 hs1 hs3 hh3 o3 hk3 hin q1 qf u2
        go_wp2_with fail
        refine HIN.out.mono ?_
        rintro e w4 ⟨b4, rfl, hb4, hn4, hh4, hs4⟩
        have hlt4 := lt_of_block hh4
        obtain ⟨r0, r1, rf⟩ := head_cells hh4
        have rf0 := rf 0
        obtain ⟨b5, s5, e5, hlo5, hhi5, hn5, ⟨d5, hd5, hh5⟩, hs5⟩ := erase_end (P := P) (most := d + 1) (lo := 2) (hi := 2) HS.out HH3.out O3.out rfl HP.out (by simp) (by simp) (by simp) (by simp) HKL.out HK3.out hb4 hn4 (by omega) hh4 hs4
        obtain rfl : b4 = b5 := by simpa using e5
        have hs6 : Same (fun k => k = t) w4 (w4.setCell ⟨t, 0, none⟩ (.pointer (some ⟨b4, 0, none⟩))) := (Same.refl (fun k => k = t) w4).setCell (p := ⟨t, 0, none⟩) (fun _ => rfl) _
        have hfin : TreeGot w (w4.setCell ⟨t, 0, none⟩ (.pointer (some ⟨b4, 0, none⟩))) P t L (L.take i ++ v :: L.drop i) c :=
          ⟨⟨d5, n, HLOW.out, by omega, HPT.out, Or.inr ⟨n + 1, b4, s5, head_set hh5, hn5.same hh5 hs6, by omega, fun _ => hlo5⟩⟩, hs5.trans hs6 (fun _ _ h => h)⟩
        have HF := Lib.hid hfin
        clear hb4 hn4 hh4 hs4 hn5 hh5 hs5 hs6 hfin r1 rf e5
        go_wp2_with fail
        go_ret
        exact ⟨rfl, got_from HSB.out HF.out⟩)

end Go.Proofs.YtgfmemggfbgjeaaGreatDoor
