/-
  slices.Insert of one entry into a row of the call's own. Conditions: the row isn't long.
-/
import Derived.Test.YtgfmemggfbgjeaaGreatDoorM9
namespace Go.Proofs.YtgfmemggfbgjeaaGreatDoor
open Go.RowKit Go.Extern.Stop Go.Stop Go.Extern Go.Lib
set_option maxRecDepth 1000000

/-- What a row turned by the call says. -/
def Turned (w w' : World) (B g n' : Nat) (T : TypeId) (e : Ending) (ys : List Value) : Prop :=
  ∃ g' cap', e = .returned (.slice (some ⟨g', 0, none⟩) n' cap') ∧ w'.ownsRow B T 1 (.slice (some ⟨g', 0, none⟩) n' cap') n' ys ∧ Same (fun k => k = g) w w'
/-- The same of a row of entries. -/
def TurnedE (w w' : World) (B g n' : Nat) (e : Ending) (ys : List Value) : Prop :=
  ∃ g' cap', e = .returned (.slice (some ⟨g', 0, none⟩) n' cap') ∧ w'.ownsRow B 57 2 (.slice (some ⟨g', 0, none⟩) n' cap') n' ys ∧ Same (fun k => k = g) w w'

theorem two_read {w : World} {vb : Nat} {a b : Value} {T : TypeId} (hv : w.heap[vb]? = some (.cells #[a, b] T (0, 0))) : ∀ j u, [a, b][j]? = some u → w.cell? ((⟨vb, 0, none⟩ : Addr).add j) = some u := fun j u hj => by
  match j with
  | 0 => cases hj; simp only [Addr.add_lit, World.cell?, hv]; rfl
  | 1 => cases hj; simp only [Addr.add_lit, World.cell?, hv]; rfl
  | j + 2 => cases hj

set_option maxHeartbeats 4000000 in
theorem insert_end {w : World} {B g n cap vb vc : Nat} {xs : List Value} {a b : Value} (ho : w.ownsRow B 57 2 (.slice (some ⟨g, 0, none⟩) n cap) n xs) (hB : B ≤ w.heap.size) (hn : n ≤ 1000000) (hv : w.heap[vb]? = some (.cells #[a, b] 57 (0, 0))) (h1v : ∀ u ∈ [a, b], u.oneCell' = true) :
    Calls Tryz.prog 78 #[.slice (some ⟨g, 0, none⟩) n cap, .int .i64 n, .slice (some ⟨vb, 0, none⟩) 1 vc] w fun e w' => TurnedE w w' B g (n + 1) e (xs ++ [a, b]) := by
  have HO := Lib.hid ho
  obtain ⟨hBg, hnc, hcm, hxl, cs, hcl, hct, hg⟩ := ownsRow_open2 ho
  have hc63 : cap ≤ 9223372036854775807 := by unfold maxLen at hcm; omega
  have HC := Lib.hid (two_read hv)
  have HI := Lib.hid infoi
  have HV := Lib.hid h1v
  clear ho hg hct hv h1v hxl hcl
  by_cases hcn : cap = n
  all_goals (
    go_enter Tryz.func78, Tryz.ntmps78
    go_wp2_with (at_builtin; obtain ⟨i0, hi, hz, hsz, hby⟩ := HI.out; refine wpList_append_own (w := w) rfl _ _ 61 rfl B 57 i0 (.agg #[.slice none 0 0, .int .i64 0]) 2 32 rfl hi hz hsz hby rfl (by omega) (.slice (some ⟨g, 0, none⟩) n cap) n xs rfl HO.out ⟨vb, 0, none⟩ 1 vc [a, b] rfl rfl HC.out HV.out ?q2 ?q3 hB ?_)
    case q2 => unfold maxLen; omega
    case q3 => omega
    intro v' w1 hown hgrow hnil
    have hs : Same (fun k => k = g) w w1 := ⟨hgrow.os, hgrow.tape, hgrow.output, hgrow.size, fun i hi hn => hgrow.block i hi (fun e => hn (by cases e; rfl))⟩
    have hv : ∃ g c, v' = .slice (some ⟨g, 0, none⟩) (n + 1) c := by
      rcases hown.2 with ⟨rfl, h2⟩ | ⟨g, c, _, rfl, _⟩
      · omega
      · exact ⟨g, c, rfl⟩
    obtain ⟨g', c', rfl⟩ := hv
    have HW := Lib.hid hown; have HS := Lib.hid hs
    clear hown hgrow hnil hs hi hz hsz hby i0
    go_wp2_with fail
    go_ret
    exact ⟨_, _, rfl, HW.out, HS.out⟩)

set_option maxHeartbeats 4000000 in
theorem insert_shift {w : World} {B g n i cap vb vc : Nat} {xs : List Value} {a b : Value} (ho : w.ownsRow B 57 2 (.slice (some ⟨g, 0, none⟩) n cap) n xs) (hi : i < n) (hroom : n + 1 ≤ cap) (h1 : ∀ x ∈ xs, x.oneCell' = true) (hv : w.heap[vb]? = some (.cells #[a, b] 57 (0, 0))) (h1v : ∀ u ∈ [a, b], u.oneCell' = true) (hvb : vb ≠ g) :
    Calls Tryz.prog 78 #[.slice (some ⟨g, 0, none⟩) n cap, .int .i64 i, .slice (some ⟨vb, 0, none⟩) 1 vc] w fun e w' => TurnedE w w' B g (n + 1) e (xs.take (i * 2) ++ [a, b] ++ xs.drop (i * 2)) := by
  obtain ⟨hBg, hnc, hcm, hxl, cs, hcl, hct, hg⟩ := ownsRow_open2 ho
  have hc63 : cap ≤ 9223372036854775807 := by unfold maxLen at hcm; omega
  have hv' : w.heap[vb]? = some (.cells [a, b].toArray 57 (0, 0)) := hv
  have hov := fun o lb cb => aparti hg hv' (by omega) hvb 0 1 vc o lb cb
  have hdl : (xs.drop (i * 2)).length = (n - i) * 2 := by rw [List.length_drop, hxl]; omega
  have hxs : ∀ j u, (xs.drop (i * 2))[j]? = some u → w.cell? ((⟨g, i * 2, none⟩ : Addr).add j) = some u := fun j u hj => by
    refine cells_read hg (i * 2) j u ?_
    rw [List.getElem?_drop] at hj ⊢
    rw [← hct, List.getElem?_take] at hj
    split at hj
    · exact hj
    · cases hj
  have hcp1 : ∀ ty dc sc, (Builtin.copy_ #[61, 61] ty #[.slice (some ⟨g, (i + 1) * 2, none⟩) (n + 1 - (i + 1)) dc, .slice (some ⟨g, i * 2, none⟩) (n + 1 - i) sc]).run Tryz.prog w.drew = .ok (goInt (n - i : Nat)) (w.drew.setCells g ((i + 1) * 2) (xs.drop (i * 2))) := fun ty dc sc =>
    copyi (w := w.drew) hg (by simp only [Nat.min_def]; split <;> omega) hdl (by omega) hxs (fun u hu => h1 u (List.mem_of_mem_drop hu)) ty
  have hg1 : (w.drew.setCells g ((i + 1) * 2) (xs.drop (i * 2))).heap[g]? = some (.cells (spl cs ((i + 1) * 2) (xs.drop (i * 2))).toArray 57 (0, 0)) := setCells_row _ _ _ _ hg (by omega)
  have hsl : (spl cs ((i + 1) * 2) (xs.drop (i * 2))).length = cap * 2 := by rw [spl_length (by omega), hcl]
  obtain ⟨W1, hW1⟩ : ∃ W1, W1 = w.drew.setCells g ((i + 1) * 2) (xs.drop (i * 2)) := ⟨_, rfl⟩
  have hv1 : W1.heap[vb]? = some (.cells #[a, b] 57 (0, 0)) := by rw [hW1, setCells_other hvb]; exact hv
  rw [← hW1] at hg1 hcp1
  have hcp2 : ∀ ty dc, (Builtin.copy_ #[61, 61] ty #[.slice (some ⟨g, i * 2, none⟩) (n + 1 - i) dc, .slice (some ⟨vb, 0, none⟩) 1 vc]).run Tryz.prog W1 = .ok (goInt (1 : Nat)) (W1.setCells g (i * 2) [a, b]) := fun ty dc =>
    copyi hg1 (by simp only [Nat.min_def]; split <;> omega) rfl (by rw [hsl]; simp; omega) (two_read hv1) h1v ty
  have hend : (W1.setCells g (i * 2) [a, b]).ownsRow B 57 2 (.slice (some ⟨g, 0, none⟩) (n + 1) cap) (n + 1) (xs.take (i * 2) ++ [a, b] ++ xs.drop (i * 2)) := by
    refine ownsRow_shut2 (cs := spl (spl cs ((i + 1) * 2) (xs.drop (i * 2))) (i * 2) [a, b]) hBg hroom hcm (by rw [spl_length (by rw [hsl]; simp; omega), hsl]) ?_ (setCells_row _ _ _ _ hg1 (by rw [hsl]; simp; omega))
    have := spl_insert (vs := [a, b]) (i := i * 2) (j := i * 2) hct (by omega) (Nat.le_refl _) (by omega) (by simp; omega)
    rw [show i * 2 + [a, b].length = (i + 1) * 2 by simp; omega] at this
    rw [show (n + 1) * 2 = (i + 1) * 2 + (n * 2 - i * 2) by omega]
    exact this
  have hsame : Same (fun k => k = g) w (W1.setCells g (i * 2) [a, b]) := by
    rw [hW1]
    exact (((Same.refl (fun k => k = g) w).drew).setCells (fun _ => rfl) _ _).setCells (fun _ => rfl) _ _
  have HE := Lib.hid hend; have HS := Lib.hid hsame
  have hw1 : IntKind.i64.wrap ((i : Int) + 1) = (i : Int) + 1 := by rw [IntKind.wrap_i64]; omega
  have hw2 : IntKind.i64.wrap ((n : Int) + 1) = (n : Int) + 1 := by rw [IntKind.wrap_i64]; omega
  have hz2 : ¬ ((i : Int) = (n : Int)) := by omega
  have hb1 : (0 : Int) ≤ (i : Int) + 1 := by omega
  have hin : i ≤ n := by omega
  have htn : ((i : Int) + 1).toNat = i + 1 := by omega
  have hb2 : ¬ (cap = i + 1) := by omega
  have hb3 : (i : Int) ≤ (n : Int) + 1 := by omega
  have hb4 : ¬ (cap = i) := by omega
  clear ho hg hct hv hv' hg1 hv1 hxs hend hsame hW1 hdl hsl hxl hcl h1v
  go_enter Tryz.func78, Tryz.ntmps78
  go_wp2_with (simp only [hov])
  go_region_law (refine step_copy_runI rfl _ _ 61 61 rfl (.slice (some ⟨g, (i + 1) * 2, none⟩) (n + 1 - (i + 1)) (cap - (i + 1))) (.slice (some ⟨g, i * 2, none⟩) (n + 1 - i) (cap - i)) (by simp [Act.eval, Act.put]) (by simp [Act.eval, Act.put]) (hcp1 3 (cap - (i + 1)) (cap - i)) ?_)
  go_wp2_with (at_builtin; refine wpList_copy_runI _ rfl _ _ 61 61 rfl _ _ rfl rfl (hcp2 _ _) ?_)
  go_ret
  exact ⟨_, _, rfl, HE.out, HS.out⟩

set_option maxHeartbeats 4000000 in
theorem insert_grow {w : World} {B g n i cap vb vc : Nat} {xs : List Value} {a b : Value} (ho : w.ownsRow B 57 2 (.slice (some ⟨g, 0, none⟩) n cap) n xs) (hB : B ≤ w.heap.size) (hn : n ≤ 100000) (hi : i < n) (hroom : cap < n + 1) (h1 : ∀ x ∈ xs, x.oneCell' = true) (hv : w.heap[vb]? = some (.cells #[a, b] 57 (0, 0))) (h1v : ∀ u ∈ [a, b], u.oneCell' = true) :
    Calls Tryz.prog 78 #[.slice (some ⟨g, 0, none⟩) n cap, .int .i64 i, .slice (some ⟨vb, 0, none⟩) 1 vc] w fun e w' => TurnedE w w' B g (n + 1) e (xs.take (i * 2) ++ [a, b] ++ xs.drop (i * 2)) := by
  obtain ⟨hBg, hnc, hcm, hxl, cs, hcl, hct, hg⟩ := ownsRow_open2 ho
  have hgl := lt_of_block hg
  have hvl := lt_of_block hv
  have hdl : (xs.drop (i * 2)).length = (n - i) * 2 := by rw [List.length_drop, hxl]; omega
  obtain ⟨G, zs, hrz, hGl, hGk, hGm⟩ := growzi (i := i) (k := n + 1 - i) hg hcl (by omega) (by omega) (by omega) (by omega)
  rw [show i + (n + 1 - i) = n + 1 by omega] at hrz hGk
  rw [show ((n + 1 - i : Nat) : Int) = (n : Int) + 1 - (i : Int) by omega] at hrz
  have hG63 : G ≤ 9223372036854775807 := by unfold maxLen at hGm; omega
  obtain ⟨W1, hW1⟩ : ∃ W1, W1 = w.drew.alloc (.cells (cs.take (i * 2) ++ zs).toArray 57) := ⟨_, rfl⟩
  have hg1 : W1.heap[w.heap.size]? = some (.cells (cs.take (i * 2) ++ zs).toArray 57 (0, 0)) := by rw [hW1]; exact heap_alloc_new w.drew _
  have hsW : Same (fun _ => False) w W1 := by rw [hW1]; exact (Same.refl _ w).drew.alloc _
  rw [← hW1] at hrz
  have hv1 := hsW.obj hv id
  have hgo1 := hsW.obj hg id
  have hcpA : ∀ ty dc, (Builtin.copy_ #[61, 61] ty #[.slice (some ⟨w.heap.size, i * 2, none⟩) (n + 1 - i) dc, .slice (some ⟨vb, 0, none⟩) 1 vc]).run Tryz.prog W1 = .ok (goInt (1 : Nat)) (W1.setCells w.heap.size (i * 2) [a, b]) := fun ty dc =>
    copyi hg1 (by simp only [Nat.min_def]; split <;> omega) rfl (by rw [hGl]; simp; omega) (two_read hv1) h1v ty
  have hg2 : ((W1.setCells w.heap.size (i * 2) [a, b]).drew).heap[w.heap.size]? = some (.cells (spl (cs.take (i * 2) ++ zs) (i * 2) [a, b]).toArray 57 (0, 0)) := setCells_row _ _ _ _ hg1 (by rw [hGl]; simp; omega)
  have hl2 : (spl (cs.take (i * 2) ++ zs) (i * 2) [a, b]).length = G * 2 := by rw [spl_length (by rw [hGl]; simp; omega), hGl]
  have hgo2 : ((W1.setCells w.heap.size (i * 2) [a, b]).drew).heap[g]? = some (.cells cs.toArray 57 (0, 0)) := (setCells_other (by omega) _ _ _).trans hgo1
  have hcpB : ∀ ty dc sc, (Builtin.copy_ #[61, 61] ty #[.slice (some ⟨w.heap.size, (i + 1) * 2, none⟩) (n + 1 - (i + 1)) dc, .slice (some ⟨g, i * 2, none⟩) (n - i) sc]).run Tryz.prog ((W1.setCells w.heap.size (i * 2) [a, b]).drew) = .ok (goInt (n - i : Nat)) (((W1.setCells w.heap.size (i * 2) [a, b]).drew).setCells w.heap.size ((i + 1) * 2) (xs.drop (i * 2))) := fun ty dc sc =>
    copyi hg2 (by simp only [Nat.min_def]; split <;> omega) hdl (by omega) (fun j u hj => by
      refine cells_read hgo2 (i * 2) j u ?_
      rw [List.getElem?_drop] at hj ⊢
      rw [← hct, List.getElem?_take] at hj
      split at hj
      · exact hj
      · cases hj) (fun u hu => h1 u (List.mem_of_mem_drop hu)) ty
  have hend : (((W1.setCells w.heap.size (i * 2) [a, b]).drew).setCells w.heap.size ((i + 1) * 2) (xs.drop (i * 2))).ownsRow B 57 2 (.slice (some ⟨w.heap.size, 0, none⟩) (n + 1) G) (n + 1) (xs.take (i * 2) ++ [a, b] ++ xs.drop (i * 2)) := by
    refine ownsRow_shut2 hB hGk hGm ?_ ?_ (setCells_row _ _ _ _ hg2 (by omega))
    · rw [spl_length (by omega), hl2]
    · have := spl_behind (vs := [a, b]) (zs := zs) (i := i * 2) (j := i * 2) hct (by omega) (Nat.le_refl _) (by omega)
      rw [show i * 2 + [a, b].length = (i + 1) * 2 by simp; omega] at this
      rw [show (n + 1) * 2 = (i + 1) * 2 + (n * 2 - i * 2) by omega]
      exact this
  have hsame : Same (fun k => k = g) w (((W1.setCells w.heap.size (i * 2) [a, b]).drew).setCells w.heap.size ((i + 1) * 2) (xs.drop (i * 2))) :=
    (((hsW.weaken (fun _ _ h => h.elim)).setCells (fun h => absurd h (Nat.lt_irrefl _)) _ _).drew).setCells (fun h => absurd h (Nat.lt_irrefl _)) _ _
  have HE := Lib.hid hend; have HS := Lib.hid hsame
  have hw1 : IntKind.i64.wrap ((i : Int) + 1) = (i : Int) + 1 := by rw [IntKind.wrap_i64]; omega
  have hw2 : IntKind.i64.wrap ((n : Int) + 1) = (n : Int) + 1 := by rw [IntKind.wrap_i64]; omega
  have hz2 : ¬ ((i : Int) = (n : Int)) := by omega
  have hz3 : (cap : Int) < (n : Int) + 1 := by omega
  have hb1 : (0 : Int) ≤ (i : Int) + 1 := by omega
  have hin : i ≤ n := by omega
  have htn : ((i : Int) + 1).toNat = i + 1 := by omega
  have hGi : ¬ (G = i) := by omega
  have hGim : ¬ (G = i + 1) := by omega
  have hci : ¬ (cap = i) := by omega
  have hb3 : (i : Int) ≤ (n : Int) := by omega
  have hb5 : (i : Int) ≤ (n : Int) + 1 := by omega
  clear ho hg hct hv hg1 hv1 hgo1 hg2 hgo2 hend hsame hW1 hsW hGl hl2 hdl hxl hcl h1v
  go_enter Tryz.func78, Tryz.ntmps78
  go_wp2_with (first
    | (at_builtin; refine Lib.wpList_append_run _ rfl _ _ _ _ rfl _ _ rfl rfl _ _ (hrz _) ?_)
    | (at_builtin; refine wpList_copy_runI _ rfl _ _ 61 61 rfl _ _ rfl rfl (hcpA _ _) ?_))
  go_region_law (refine step_copy_runI rfl _ _ 61 61 rfl (.slice (some ⟨w.heap.size, (i + 1) * 2, none⟩) (n + 1 - (i + 1)) (G - (i + 1))) (.slice (some ⟨g, i * 2, none⟩) (n - i) (cap - i)) (by simp [Act.eval, Act.put]) (by simp [Act.eval, Act.put]) (hcpB 3 (G - (i + 1)) (cap - i)) ?_)
  go_wp2_with fail
  go_ret
  exact ⟨_, _, rfl, HE.out, HS.out⟩

/-- slices.Insert of one entry. -/
theorem insert_any {w : World} {B g n i cap vb vc : Nat} {xs : List Value} {a b : Value} (ho : w.ownsRow B 57 2 (.slice (some ⟨g, 0, none⟩) n cap) n xs) (hB : B ≤ w.heap.size) (hn : n ≤ 100000) (hi : i ≤ n) (h1 : ∀ x ∈ xs, x.oneCell' = true) (hv : w.heap[vb]? = some (.cells #[a, b] 57 (0, 0))) (h1v : ∀ u ∈ [a, b], u.oneCell' = true) (hvb : vb ≠ g) :
    Calls Tryz.prog 78 #[.slice (some ⟨g, 0, none⟩) n cap, .int .i64 i, .slice (some ⟨vb, 0, none⟩) 1 vc] w fun e w' => TurnedE w w' B g (n + 1) e (xs.take (i * 2) ++ [a, b] ++ xs.drop (i * 2)) := by
  by_cases hin : i = n
  · subst hin
    have hxl := (ownsRow_open2 ho).2.2.2.1
    have e : xs.take (i * 2) ++ [a, b] ++ xs.drop (i * 2) = xs ++ [a, b] := by rw [List.take_of_length_le (by omega), List.drop_of_length_le (by omega), List.append_nil]
    rw [e]
    exact insert_end ho hB (by omega) hv h1v
  · by_cases hr : n + 1 ≤ cap
    · exact insert_shift ho (by omega) hr h1 hv h1v hvb
    · exact insert_grow ho hB hn (by omega) (by omega) h1 hv h1v

end Go.Proofs.YtgfmemggfbgjeaaGreatDoor
