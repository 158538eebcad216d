/-
  ordidx: Insert into a unique index. Conditions: few entries; the comparator doesn't fail.
-/
import Derived.Test.YtgfmemggfbgjeaaGreatDoorM40
import Derived.Test.YtgfmemggfbgjeaaGreatDoorM47
namespace Go.Proofs.YtgfmemggfbgjeaaGreatDoor
open Go.RowKit Go.Extern.Stop Go.Stop Go.Extern Go.Lib
set_option maxRecDepth 1000000

/-- What Insert answers, where the index is unique. -/
def InsUniq (w : World) (P : Nat → Prop) (x t bm bn : Nat) (mp : Value) (n a h s : Int) (L : List En) (c : Int) (K : List V) (rid : Int) (r : Ending) (w' : World) : Prop :=
  ∃ c', MAt w' mp c' a h s ∧ Same (fun k => Blk mp k ∨ k = t) w w' ∧
    ((∃ y ∈ L, y.id = rid ∧ cmpR n y.kv K = 0 ∧ r = .returned (.tuple #[.int .i64 0, .iface 65 (.int .i64 72)]) ∧ OxAt w' P x t bm bn true mp n a L c) ∨
     (∃ (i b : Nat) (y : En), L[i]? = some y ∧ cmpR n y.kv K = 0 ∧ (∀ z ∈ L.take i, cmpR n z.kv K < 0) ∧ w.heap.size ≤ b ∧ w'.heap[b]? = some (twObj y.id) ∧ r = .returned (.tuple #[.int .i64 0, .iface 92 (.pointer (some ⟨b, 0, none⟩))]) ∧ (¬ ∃ y ∈ L, y.id = rid ∧ cmpR n y.kv K = 0) ∧ OxAt w' P x t bm bn true mp n a L c) ∨
     (∃ (i : Nat) (e : En) (d : Nat), i ≤ L.length ∧ (∀ y ∈ L.take i, rankC n K rid y < 0) ∧ (∀ y ∈ L.drop i, 0 ≤ rankC n K rid y) ∧ (∀ y ∈ L, cmpR n y.kv K ≠ 0) ∧ e.kv = K ∧ e.id = rid ∧ (∀ k, e.key.ownBlock = some k → w.heap.size ≤ k) ∧ d ≤ 3 * (Nat.log2 (L.length + 1) / 2) + 3 ∧ r = .returned (.tuple #[.int .i64 i, .nilIface]) ∧ OxAt w' P x t bm bn true mp n a (L.take i ++ e :: L.drop i) (c + d)))

theorem not_there {L : List En} {i : Nat} {n rid : Int} {K : List V} (hp : L.Pairwise (fun x y => 0 < rankC n K rid x → 0 < rankC n K rid y)) (f1 : ∀ y ∈ L.take i, rankC n K rid y < 0) (f2 : ∀ y ∈ L.drop i, 0 ≤ rankC n K rid y) (hb : ¬ ∃ y, L[i]? = some y ∧ y.id = rid ∧ cmpR n y.kv K = 0) : ¬ ∃ y ∈ L, y.id = rid ∧ cmpR n y.kv K = 0 := by
  rintro ⟨y, hy, h1, h2⟩
  have h0 : rankC n K rid y = 0 := by
    unfold rankC
    rw [h2, if_neg (by simp), h1]
    simp [cmpI]
  have hyd : y ∈ L.drop i := by
    rw [← List.take_append_drop i L] at hy
    rcases List.mem_append.1 hy with g | g
    · have := f1 y g; omega
    · exact g
  rw [← List.take_append_drop i L, List.pairwise_append] at hp
  cases hd : L.drop i with
  | nil => rw [hd] at hyd; cases hyd
  | cons z zs =>
    have hz : L[i]? = some z := by
      have := List.head?_drop (l := L) (i := i)
      rw [hd] at this
      simpa using this.symm
    rw [hd] at hyd
    rcases List.mem_cons.1 hyd with rfl | hyz
    · exact hb ⟨y, hz, h1, h2⟩
    · have s2 := hp.2.1
      rw [hd, List.pairwise_cons] at s2
      have g1 := s2.1 y hyz
      have g2 := f2 z (by rw [hd]; simp)
      rcases Int.lt_or_eq_of_le g2 with g3 | g3
      · have := g1 g3; omega
      · refine hb ⟨z, hz, ?_⟩
        unfold rankC at g3
        by_cases e0 : cmpR n z.kv K = 0
        · rw [if_neg (by simp [e0])] at g3
          refine ⟨?_, e0⟩
          unfold cmpI at g3
          split at g3
          · omega
          · split at g3 <;> omega
        · rw [if_pos e0] at g3
          exact absurd g3.symm e0

set_option maxHeartbeats 16000000 in
theorem insert_uniq {w : World} {P : Nat → Prop} {x t bm bn : Nat} {v mp : Value} {K : List V} {L : List En} {n a c cc h s rid : Int} (hO : OxAt w P x t bm bn true mp n a L c) (hm : MAt w mp cc a h s) (hK : KeyOk w mp v K) (hP : ∀ k, w.heap.size ≤ k → P k) (hL : L.length ≤ 80000) (hc : 0 ≤ c ∧ c ≤ 600000000)
    (h1 : L.Pairwise (fun x y => 0 ≤ rankC n K rid x → 0 ≤ rankC n K rid y)) (h2 : L.Pairwise (fun x y => 0 ≤ cmpR n x.kv K → 0 ≤ cmpR n y.kv K)) (h3 : L.Pairwise (fun x y => 0 < cmpR n x.kv K → 0 < cmpR n y.kv K)) (h4 : L.Pairwise (fun x y => 0 < rankC n K rid x → 0 < rankC n K rid y)) :
    Calls Tryz.prog 12 #[.pointer (some ⟨x, 0, none⟩), v, .int .i64 rid] w fun r w' => InsUniq w P x t bm bn mp n a h s L c K rid r w' := by
  have HR := Lib.hid (rank_calm hO hm hK (by omega) h1)
  have HK1 := Lib.hid (fun (W : World) (hs : Same (Blk mp) w W) => And.intro (hO.kept hm hs) (hK.kept hs hK.mt))
  obtain ⟨vo, vc, rfl⟩ := readV_len hK.rd
  have HP := Lib.hid hP; have H2 := Lib.hid h2; have H3 := Lib.hid h3; have H4 := Lib.hid h4
  clear hO hm hK h1 hP h2 h3 h4
  go_enter Tryz.func12, Tryz.ntmps12
  go_wp2_with fail
  refine HR.out.mono ?_
  rintro r w1 ⟨i, b, c1, rfl, hi, f1, f2, hb, hs1, hm1⟩
  obtain ⟨hO1, hK1⟩ := HK1.out w1 hs1
  have HF1 := Lib.hid f1; have HF2 := Lib.hid f2; have HB := Lib.hid hb; have HS1 := Lib.hid hs1; have HM1 := Lib.hid hm1; have HO1 := Lib.hid hO1; have HKK := Lib.hid hK1
  obtain ⟨i0, i1, i2, il⟩ := idx_cells hO1.idx
  clear f1 f2 hb hs1 hm1 hO1 hK1
  cases b with
  | true =>
    go_wp2_with fail
    go_ret2
    obtain ⟨y, hy, hy1, hy2⟩ := HB.out.1 (by trivial)
    exact ⟨c1, HM1.out, HS1.out.weaken (fun _ _ h => Or.inl h), Or.inl ⟨y, List.mem_of_getElem? hy, hy1, hy2, rfl, HO1.out⟩⟩
  | false =>
    have HNO := Lib.hid (not_there H4.out HF1.out HF2.out (fun h => by have := HB.out.2 h; cases this))
    have HFD := Lib.hid (find_calm HO1.out HM1.out HKK.out (by omega) H2.out H3.out)
    go_wp2_with fail
    refine HFD.out.mono ?_
    rintro r w2 ⟨fr, tu, c2, rfl, hfr, hto, g1, g2, g3, g4, hs2, hm2⟩
    have hO2 := HO1.out.kept HM1.out hs2
    have hK2 := HKK.out.kept hs2 HKK.out.mt
    obtain ⟨j0, j1, j2, jl⟩ := idx_cells hO2.idx
    have HG1 := Lib.hid g1; have HG2 := Lib.hid g2; have HG3 := Lib.hid g3; have HG4 := Lib.hid g4; have HS2 := Lib.hid (HS1.out.trans hs2 (fun _ _ h => h)); have HM2 := Lib.hid hm2; have HO2 := Lib.hid hO2; have HK2 := Lib.hid hK2
    clear g1 g2 g3 g4 hs2 hm2 hO2 hK2 i0 i1 i2 il
    by_cases hlt : fr < tu
    · have hlt' : (fr : Int) < (tu : Int) := by omega
      have hil : fr < L.length := by omega
      have HAT := Lib.hid (tree_at HO2.out.tree (by omega) hil)
      have hyi : L[fr]? = some L[fr] := List.getElem?_eq_getElem hil
      have hyd : L[fr] ∈ L.drop fr := by rw [List.drop_eq_getElem_cons hil]; exact List.mem_cons_self
      have hyt : L[fr] ∈ L.take tu := by
        refine List.mem_iff_getElem?.2 ⟨fr, ?_⟩
        rw [List.getElem?_take_of_lt hlt, hyi]
      have hz0 : cmpR n L[fr].kv K = 0 := by have e1 := HG2.out _ hyd; have e2 := HG3.out _ hyt; omega
      generalize L[fr] = y at *
      have HYI := Lib.hid hyi; have HZ0 := Lib.hid hz0
      clear hyi hyd hyt hz0
      go_wp2_with fail
      refine HAT.out.mono ?_
      rintro r w3 ⟨rfl, hs3⟩
      obtain ⟨w4, hw4⟩ : ∃ w4, w4 = w3.alloc (entObj y) := ⟨_, rfl⟩
      have hs4 : Same (fun _ => False) w2 w4 := by rw [hw4]; exact hs3.alloc _
      have hyb : w4.heap[w3.heap.size]? = some (entObj y) := by rw [hw4]; exact heap_alloc_new _ _
      obtain ⟨y0, y1, _, _⟩ := ent_cells hyb
      have hyl := lt_of_block hyb
      have HW4 := Lib.hid hw4; have HS4 := Lib.hid hs4
      clear hs3 hw4 hs4 hyb
      go_upto_region 12 with fail
      rw [← HW4.out]
      go_region
      all_goals go_wp2_with fail
      go_ret2
      have hs5 := (HS4.out.alloc (twObj y.id)).drew
      have hs5' : Same (Blk mp) w2 (w4.alloc (twObj y.id)).drew := hs5.weaken (fun _ _ h => h.elim)
      have hsz : w.heap.size ≤ w4.heap.size := Nat.le_trans HS2.out.size HS4.out.size
      exact ⟨c2, HM2.out.same hs5 (fun _ _ => id), (HS2.out.trans hs5' (fun _ _ h => h)).weaken (fun _ _ h => Or.inl h), Or.inr (Or.inl ⟨fr, w4.heap.size, y, HYI.out, HZ0.out, HG1.out, hsz, heap_alloc_new w4 (twObj y.id), rfl, HNO.out, HO2.out.kept HM2.out hs5'⟩)⟩
    · have hlt' : ¬ (fr : Int) < (tu : Int) := by omega
      have hne : ∀ y ∈ L, cmpR n y.kv K ≠ 0 := fun y hy h0 => by
        rw [← List.take_append_drop fr L] at hy
        rcases List.mem_append.1 hy with g | g
        · have := HG1.out y g; omega
        · have hyd : y ∈ L.drop tu := by
            have e : L.drop fr = (L.drop tu).drop (fr - tu) := by rw [List.drop_drop]; congr 1; omega
            rw [e] at g
            exact List.mem_of_mem_drop g
          have := HG4.out y hyd
          omega
      have hd1 : Same (fun _ => False) w2 w2.drew := (Same.refl (fun _ => False) w2).drew
      have HNE := Lib.hid hne
      have HCP := Lib.hid (clone_any (HK2.out.rd.kept hd1 (fun _ _ => id)) HK2.out.few)
      have HINS := Lib.hid (fun (W : World) (uo : Option Addr) (uc : Nat) (hs : Same (fun _ => False) w2 W) => tree_insert (v := (⟨uo, K.length, uc, rid, K⟩ : En)) (i := i) (HO2.out.tree.keep hs (fun _ h => h.elim)) (fun k hk => HP.out k (by have e1 := HS2.out.size; have e2 := hs.size; omega)) ⟨hc.1, by omega⟩ (by omega) hi)
      have HD1 := Lib.hid hd1
      clear hd1 hne
      go_wp2_with fail
      go_region_with (first
        | (go_at_call 36; refine HCP.out.mono ?_; rintro r w3 ⟨u, rfl, ho, hs3⟩; obtain ⟨uo, uc, rfl⟩ := readV_len (ReadV.own ho); have HOW := Lib.hid ho; have HS3 := Lib.hid (HD1.out.trans hs3 (fun _ _ h => h)); obtain ⟨q0, _, _, ql⟩ := idx_cells (HS3.out.obj HO2.out.idx id); clear ho hs3)
        | (go_at_call 35; refine (HINS.out w3 uo uc HS3.out).mono ?_; rintro r w4 ⟨rfl, hg⟩; have HG := Lib.hid hg; clear hg))
      all_goals go_wp2_with fail
      all_goals (
        go_ret2
        obtain ⟨rr, hrr⟩ := HO2.out.head
        have htl := lt_of_block hrr
        have hm3 : MAt w3 mp c2 a h s := HM2.out.same HS3.out (fun _ _ => id)
        have hO3 : OxAt w3 P x t bm bn true mp n a L c := HO2.out.kept HM2.out (HS3.out.weaken (fun _ _ h => h.elim))
        have hown : ∀ k, (Value.slice uo K.length uc).ownBlock = some k → w2.heap.size ≤ k := fun k hk => (HOW.out.lt k hk).1
        have hke : KeyOk w3 mp (Value.slice uo K.length uc) K := ⟨ReadV.own HOW.out, CapOk.own HOW.out, HK2.out.ok, HK2.out.small, HK2.out.few, fun k hk hb => by have e1 := hown k hk; have e2 := HM2.out.lt hb; omega⟩
        obtain ⟨d, hd, hO4, hm4, hs4⟩ := hO3.got (e := (⟨uo, K.length, uc, rid, K⟩ : En)) (i := i) hm3 HG.out hke (fun hk => by have := hown t hk; omega)
        exact ⟨c2, hm4, ((HS2.out.weaken (fun _ _ h => Or.inl h)).trans HS3.out (fun _ _ h => h.elim)).trans hs4 (fun _ _ h => Or.inr h), Or.inr (Or.inr ⟨i, ⟨uo, K.length, uc, rid, K⟩, d, hi, HF1.out, HF2.out, HNE.out, rfl, rfl, (fun k hk => Nat.le_trans HS2.out.size (hown k hk)), hd, rfl, hO4⟩)⟩)

end Go.Proofs.YtgfmemggfbgjeaaGreatDoor
