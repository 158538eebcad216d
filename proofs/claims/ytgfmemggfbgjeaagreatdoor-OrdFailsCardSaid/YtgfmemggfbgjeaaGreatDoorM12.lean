/-
  slices.Replace of nodes: the row gets longer; all its roads together. Conditions: the row isn't long.
-/
import Derived.Test.YtgfmemggfbgjeaaGreatDoorM11
namespace Go.Proofs.YtgfmemggfbgjeaaGreatDoor
open Go.RowKit Go.Extern.Stop Go.Stop Go.Extern Go.Lib
set_option maxRecDepth 1000000

set_option maxHeartbeats 4000000 in
/-- j < len(s), v doesn't fit where the old ones were, there is room. -/
theorem replace_shift {w : World} {B g n i j cap vb m vc : Nat} {xs vs us : List Value} (ho : w.ownsRow B 109 1 (.slice (some ⟨g, 0, none⟩) n cap) n xs) (hn : n ≤ 100000) (hmm0 : m ≤ 100000) (hi : i < j) (hj : j < n) (hfit : j < i + m) (hroom : i + m + (n - j) ≤ cap) (h1 : ∀ x ∈ xs, x.oneCell' = true)
    (hv : ReadC w 109 (.slice (some ⟨vb, 0, none⟩) m vc) vs) (h1v : ∀ x ∈ vs, x.oneCell' = true) (hvb : vb ≠ g) (hvo : w.heap[vb]? = some (.cells us.toArray 109 (0, 0))) (hus : us.length ≠ 0) :
    Calls Tryz.prog 81 #[.slice (some ⟨g, 0, none⟩) n cap, .int .i64 i, .int .i64 j, .slice (some ⟨vb, 0, none⟩) m vc] w fun e w' => Turned w w' B g (i + m + (n - j)) 109 e (xs.take i ++ vs ++ xs.drop j) := by
  obtain ⟨hBg, hnc, hcm, hxl, cs, hcl, hct, hg⟩ := ownsRow_open ho
  have hc63 : cap ≤ 9223372036854775807 := by unfold maxLen at hcm; omega
  have hvl := hv.len
  have hov : ∀ (w : World), w.heap[g]? = some (.cells cs.toArray 109 (0, 0)) → w.heap[vb]? = some (.cells us.toArray 109 (0, 0)) → ∀ o lb cb, (callFunc 102 #[.slice (some ⟨g, o, none⟩) lb cb, .slice (some ⟨vb, 0, none⟩) m vc]).run Tryz.prog w = .ok (.value (.bool false)) w := fun w hg hvo o lb cb => apartk hvo hg hus (fun e => hvb e.symm) o lb cb 0 m vc
  have hov1 := hov w hg hvo
  have hov2 := hov w.drew hg hvo
  have hdl : (xs.drop j).length = n - j := by rw [List.length_drop, hxl]
  have hxs : ∀ q u, (xs.drop j)[q]? = some u → w.cell? ((⟨g, j, none⟩ : Addr).add q) = some u := fun q u hq => by
    refine cells_read hg j q u ?_
    rw [List.getElem?_drop] at hq ⊢
    rw [← hct, List.getElem?_take] at hq
    split at hq
    · exact hq
    · cases hq
  have hcpA : ∀ ty dc sc, (Builtin.copy_ #[114, 114] ty #[.slice (some ⟨g, i + m, none⟩) (n - j) dc, .slice (some ⟨g, j, none⟩) (n - j) sc]).run Tryz.prog w.drew.drew = .ok (goInt (xs.drop j).length) (w.drew.drew.setCells g (i + m) (xs.drop j)) := fun ty dc sc =>
    copyk (w := w.drew.drew) hg (by rw [hdl]; simp only [Nat.min_def]; split <;> omega) (by omega) hxs (fun u hu => h1 u (List.mem_of_mem_drop hu)) ty
  have hg1 : (w.drew.drew.setCells g (i + m) (xs.drop j)).heap[g]? = some (.cells (spl cs (i + m) (xs.drop j)).toArray 109 (0, 0)) := setCells_row _ _ _ _ hg (by omega)
  have hl1 : (spl cs (i + m) (xs.drop j)).length = cap := by rw [spl_length (by omega), hcl]
  have hs1 : Same (fun k => k = g) w (w.drew.drew.setCells g (i + m) (xs.drop j)) := (((Same.refl (fun k => k = g) w).drew).drew).setCells (fun _ => rfl) _ _
  have hv1 : ReadC (w.drew.drew.setCells g (i + m) (xs.drop j)) 109 (.slice (some ⟨vb, 0, none⟩) m vc) vs := hv.kept hs1 (fun k hk e => by cases hk; exact hvb e)
  obtain ⟨W1, hW1⟩ : ∃ W1, W1 = w.drew.drew.setCells g (i + m) (xs.drop j) := ⟨_, rfl⟩
  rw [← hW1] at hcpA hg1 hs1 hv1
  have hcpB : ∀ ty dc, (Builtin.copy_ #[114, 114] ty #[.slice (some ⟨g, i, none⟩) (i + m + (n - j) - i) dc, .slice (some ⟨vb, 0, none⟩) m vc]).run Tryz.prog W1 = .ok (goInt vs.length) (W1.setCells g i vs) := fun ty dc =>
    copyk hg1 (by rw [hvl]; simp only [Nat.min_def]; split <;> omega) (by omega) (fun q u hq => by rw [Addr.add_lit]; exact hv1.cell hq) h1v ty
  have hend : (W1.setCells g i vs).ownsRow B 109 1 (.slice (some ⟨g, 0, none⟩) (i + m + (n - j)) cap) (i + m + (n - j)) (xs.take i ++ vs ++ xs.drop j) := by
    refine ownsRow_shut (cs := spl (spl cs (i + m) (xs.drop j)) i vs) hBg hroom hcm (by rw [spl_length (by omega), hl1]) ?_ (setCells_row _ _ _ _ hg1 (by omega))
    have := spl_insert (vs := vs) (i := i) (j := j) hct (by omega) (by omega) (by omega) (by omega)
    rw [hvl] at this
    exact this
  have HE := Lib.hid hend; have HS := Lib.hid (hs1.setCells (fun _ => rfl) i vs)
  have hq1 : IntKind.i64.wrap ((i : Int) + (m : Int)) = (i : Int) + (m : Int) := by rw [IntKind.wrap_i64]; omega
  have hq2 : IntKind.i64.wrap ((i : Int) + (m : Int) + ((n - j : Nat) : Int)) = (i : Int) + (m : Int) + ((n - j : Nat) : Int) := by rw [IntKind.wrap_i64]; omega
  have hin : i ≤ n := by omega
  have hij : i ≤ j := by omega
  have hjn : j ≤ n := by omega
  have hn1 : ¬ ((i : Int) = (j : Int)) := by omega
  have hn2 : ¬ ((j : Int) = (n : Int)) := by omega
  have hic : i ≤ cap := by omega
  have hb1 : ¬ (cap = i) := by omega
  have hb2 : ¬ (cap = j) := by omega
  have hb3 : ¬ (cap = i + m) := by omega
  have hle : ¬ (cap : Int) < (i : Int) + (m : Int) + ((n - j : Nat) : Int) := by omega
  have hle1 : (i : Int) + (m : Int) + ((n - j : Nat) : Int) ≤ (cap : Int) := by omega
  have hle2 : ¬ (i : Int) + (m : Int) ≤ (j : Int) := by omega
  have hnn : (0 : Int) ≤ (i : Int) + (m : Int) := by omega
  have hnn2 : (0 : Int) ≤ (i : Int) + (m : Int) + ((n - j : Nat) : Int) := by omega
  have hmm : i + m ≤ i + m + (n - j) := by omega
  have hmm' : (i : Int) + (m : Int) ≤ (i : Int) + (m : Int) + ((n - j : Nat) : Int) := by omega
  have htn : ((i : Int) + (m : Int)).toNat = i + m := by omega
  have htn2 : ((i : Int) + (m : Int) + ((n - j : Nat) : Int)).toNat = i + m + (n - j) := by omega
  clear ho hg hct hv hvo hg1 hs1 hv1 hW1 hxs hend hov
  go_enter Tryz.func81, Tryz.ntmps81
  go_wp2_with fail
  go_region
  go_wp2_with (first | simp only [hov2] | simp only [hov1])
  go_region_law (refine step_copy_runI rfl _ _ 114 114 rfl (.slice (some ⟨g, i + m, none⟩) (n - j) (cap - (i + m))) (.slice (some ⟨g, j, none⟩) (n - j) (cap - j)) (by simp [Act.eval, Act.put]) (by simp [Act.eval, Act.put]) (hcpA 3 (cap - (i + m)) (cap - j)) ?_)
  go_wp2_with fail
  go_ret
  exact ⟨_, _, rfl, HE.out, HS.out⟩

set_option maxHeartbeats 4000000 in
/-- j < len(s), no room. -/
theorem replace_grow {w : World} {B g n i j cap vb m vc : Nat} {xs vs : List Value} (ho : w.ownsRow B 109 1 (.slice (some ⟨g, 0, none⟩) n cap) n xs) (hB : B ≤ w.heap.size) (hn : n ≤ 100000) (hmm0 : m ≤ 100000) (hi : i < j) (hj : j < n) (hroom : cap < i + m + (n - j)) (h1 : ∀ x ∈ xs, x.oneCell' = true)
    (hv : ReadC w 109 (.slice (some ⟨vb, 0, none⟩) m vc) vs) (h1v : ∀ x ∈ vs, x.oneCell' = true) :
    Calls Tryz.prog 81 #[.slice (some ⟨g, 0, none⟩) n cap, .int .i64 i, .int .i64 j, .slice (some ⟨vb, 0, none⟩) m vc] w fun e w' => Turned w w' B g (i + m + (n - j)) 109 e (xs.take i ++ vs ++ xs.drop j) := by
  obtain ⟨hBg, hnc, hcm, hxl, cs, hcl, hct, hg⟩ := ownsRow_open ho
  have hgl := lt_of_block hg
  have hvl := hv.len
  have hdl : (xs.drop j).length = n - j := by rw [List.length_drop, hxl]
  obtain ⟨G, zs, hrz, hGl, hGk, hGm⟩ := growzk (w := w.drew) (i := i) (k := m + (n - j)) hg hcl (by omega) (by omega) (by omega) (by omega)
  rw [show i + (m + (n - j)) = i + m + (n - j) by omega] at hrz hGk
  rw [show ((m + (n - j) : Nat) : Int) = (m : Int) + ((n - j : Nat) : Int) by omega] at hrz
  have hG63 : G ≤ 9223372036854775807 := by unfold maxLen at hGm; omega
  obtain ⟨W1, hW1⟩ : ∃ W1, W1 = w.drew.drew.alloc (.cells (cs.take i ++ zs).toArray 109) := ⟨_, rfl⟩
  have hg1 : W1.heap[w.heap.size]? = some (.cells (cs.take i ++ zs).toArray 109 (0, 0)) := by rw [hW1]; exact heap_alloc_new w.drew.drew _
  have hsW : Same (fun _ => False) w W1 := by rw [hW1]; exact (Same.refl _ w).drew.drew.alloc _
  rw [← hW1] at hrz
  have hv1 := hv.kept hsW (fun _ _ => id)
  have hgo1 := hsW.obj hg id
  have hcpA : ∀ ty dc, (Builtin.copy_ #[114, 114] ty #[.slice (some ⟨w.heap.size, i, none⟩) (i + m + (n - j) - i) dc, .slice (some ⟨vb, 0, none⟩) m vc]).run Tryz.prog W1 = .ok (goInt vs.length) (W1.setCells w.heap.size i vs) := fun ty dc =>
    copyk hg1 (by rw [hvl]; simp only [Nat.min_def]; split <;> omega) (by omega) (fun q u hq => by rw [Addr.add_lit]; exact hv1.cell hq) h1v ty
  have hg2 : (W1.setCells w.heap.size i vs).heap[w.heap.size]? = some (.cells (spl (cs.take i ++ zs) i vs).toArray 109 (0, 0)) := setCells_row _ _ _ _ hg1 (by omega)
  have hl2 : (spl (cs.take i ++ zs) i vs).length = G := by rw [spl_length (by omega), hGl]
  have hgo2 : (W1.setCells w.heap.size i vs).heap[g]? = some (.cells cs.toArray 109 (0, 0)) := (setCells_other (by omega) _ _ _).trans hgo1
  have hs2 : Same (fun k => k = g) w (W1.setCells w.heap.size i vs) := (hsW.weaken (fun _ _ h => h.elim)).setCells (fun h => absurd h (Nat.lt_irrefl _)) _ _
  obtain ⟨W2, hW2⟩ : ∃ W2, W2 = W1.setCells w.heap.size i vs := ⟨_, rfl⟩
  rw [← hW2] at hcpA hg2 hgo2 hs2
  have hcpB : ∀ ty dc sc, (Builtin.copy_ #[114, 114] ty #[.slice (some ⟨w.heap.size, i + m, none⟩) (n - j) dc, .slice (some ⟨g, j, none⟩) (n - j) sc]).run Tryz.prog W2.drew = .ok (goInt (xs.drop j).length) (W2.drew.setCells w.heap.size (i + m) (xs.drop j)) := fun ty dc sc =>
    copyk (w := W2.drew) hg2 (by rw [hdl]; simp only [Nat.min_def]; split <;> omega) (by omega) (fun q u hq => by
      refine cells_read (w := W2.drew) hgo2 j q u ?_
      rw [List.getElem?_drop] at hq ⊢
      rw [← hct, List.getElem?_take] at hq
      split at hq
      · exact hq
      · cases hq) (fun u hu => h1 u (List.mem_of_mem_drop hu)) ty
  have hend : (W2.drew.setCells w.heap.size (i + m) (xs.drop j)).ownsRow B 109 1 (.slice (some ⟨w.heap.size, 0, none⟩) (i + m + (n - j)) G) (i + m + (n - j)) (xs.take i ++ vs ++ xs.drop j) := by
    refine ownsRow_shut hB hGk hGm ?_ ?_ (setCells_row _ _ _ _ hg2 (by omega))
    · rw [spl_length (by omega), hl2]
    · have := spl_behind (vs := vs) (zs := zs) (i := i) (j := j) hct (by omega) (by omega) (by omega)
      rw [hvl] at this
      exact this
  have HE := Lib.hid hend; have HS := Lib.hid ((hs2.drew).setCells (g := w.heap.size) (fun h => absurd h (Nat.lt_irrefl _)) (i + m) (xs.drop j))
  have hq1 : IntKind.i64.wrap ((i : Int) + (m : Int)) = (i : Int) + (m : Int) := by rw [IntKind.wrap_i64]; omega
  have hq2 : IntKind.i64.wrap ((i : Int) + (m : Int) + ((n - j : Nat) : Int)) = (i : Int) + (m : Int) + ((n - j : Nat) : Int) := by rw [IntKind.wrap_i64]; omega
  have hq3 : (i : Int) + (m : Int) + ((n - j : Nat) : Int) - (i : Int) = (m : Int) + ((n - j : Nat) : Int) := by omega
  have hin : i ≤ n := by omega
  have hij : i ≤ j := by omega
  have hjn : j ≤ n := by omega
  have hn1 : ¬ ((i : Int) = (j : Int)) := by omega
  have hn2 : ¬ ((j : Int) = (n : Int)) := by omega
  have hic : i ≤ cap := by omega
  have hb1 : ¬ (cap = i) := by omega
  have hb2 : ¬ (cap = j) := by omega
  have hb3 : ¬ (G = i + m) := by omega
  have hb4 : ¬ (G = i) := by omega
  have hle : (cap : Int) < (i : Int) + (m : Int) + ((n - j : Nat) : Int) := by omega
  have hnn : (0 : Int) ≤ (i : Int) + (m : Int) := by omega
  have hii : (i : Int) ≤ (i : Int) + (m : Int) + ((n - j : Nat) : Int) := by omega
  have hii2 : i ≤ i + m + (n - j) := by omega
  have hmm : i + m ≤ i + m + (n - j) := by omega
  have hmm' : (i : Int) + (m : Int) ≤ (i : Int) + (m : Int) + ((n - j : Nat) : Int) := by omega
  have htn : ((i : Int) + (m : Int)).toNat = i + m := by omega
  have htn2 : ((i : Int) + (m : Int) + ((n - j : Nat) : Int)).toNat = i + m + (n - j) := by omega
  clear ho hg hct hv hg1 hv1 hgo1 hg2 hgo2 hs2 hend hsW hW1 hW2 hGl hl2
  go_enter Tryz.func81, Tryz.ntmps81
  go_wp2_with fail
  go_region
  go_wp2_with (first
    | (at_builtin; refine Lib.wpList_append_run _ rfl _ _ _ _ rfl _ _ rfl rfl _ _ (hrz _) ?_)
    | (at_builtin; refine wpList_copy_runI _ rfl _ _ 114 114 rfl _ _ rfl rfl (hcpA _ _) ?_))
  go_region_law (refine step_copy_runI rfl _ _ 114 114 rfl (.slice (some ⟨w.heap.size, i + m, none⟩) (n - j) (G - (i + m))) (.slice (some ⟨g, j, none⟩) (n - j) (cap - j)) (by simp [Act.eval, Act.put]) (by simp [Act.eval, Act.put]) (hcpB 3 (G - (i + m)) (cap - j)) ?_)
  go_wp2_with fail
  go_ret
  exact ⟨_, _, rfl, HE.out, HS.out⟩

/-- slices.Replace of nodes in a row of the call's own. -/
theorem replace_any {w : World} {B B2 g n i j cap vb m vc : Nat} {xs vs : List Value} (ho : w.ownsRow B 109 1 (.slice (some ⟨g, 0, none⟩) n cap) n xs) (hB : B ≤ w.heap.size) (hn : n ≤ 100000) (hmm : m ≤ 100000) (hi : i < j) (hj : j ≤ n) (hm : 0 < m) (h1 : ∀ x ∈ xs, x.oneCell' = true)
    (hv : w.ownsRow B2 109 1 (.slice (some ⟨vb, 0, none⟩) m vc) m vs) (h1v : ∀ x ∈ vs, x.oneCell' = true) (hvb : vb ≠ g) :
    Calls Tryz.prog 81 #[.slice (some ⟨g, 0, none⟩) n cap, .int .i64 i, .int .i64 j, .slice (some ⟨vb, 0, none⟩) m vc] w fun e w' => Turned w w' B g (i + m + (n - j)) 109 e (xs.take i ++ vs ++ xs.drop j) := by
  have hr := ownsRow_read hv
  have hxl := (ownsRow_open ho).2.2.2.1
  by_cases hjn : j = n
  · subst hjn
    have e : xs.take i ++ vs ++ xs.drop j = xs.take i ++ vs := by rw [List.drop_of_length_le (by omega), List.append_nil]
    rw [e, show i + m + (j - j) = i + m by omega]
    by_cases hr2 : i + m ≤ cap
    · exact replace_end ho hi hm hr2 hr h1v
    · exact replace_more ho hB hn hmm hi hm (by omega) hr h1v
  · by_cases hr2 : i + m + (n - j) ≤ cap
    · by_cases hf : i + m ≤ j
      · exact replace_fit ho hn hi (by omega) hm hf h1 hr h1v
      · obtain ⟨_, hmc, _, _, us, hul, _, hvo⟩ := ownsRow_open hv
        exact replace_shift ho hn hmm hi (by omega) (by omega) hr2 h1 hr h1v hvb hvo (by omega)
    · exact replace_grow ho hB hn hmm hi (by omega) (by omega) h1 hr h1v

end Go.Proofs.YtgfmemggfbgjeaaGreatDoor
