/-
  slices.Replace of nodes in a row of the call's own. Conditions: the row isn't long.
-/
import Derived.Test.YtgfmemggfbgjeaaGreatDoorM10
import Derived.Lib.JoinLaws
import Derived.BigQuiet
import Derived.Deep.QuietTactic
namespace Go.Proofs.YtgfmemggfbgjeaaGreatDoor
open Go.RowKit Go.Extern.Stop Go.Stop Go.Extern Go.Lib
set_option maxRecDepth 1000000

theorem kid_zero (w : World) : (zeroValue 109).run Tryz.prog w = .ok (.pointer none) w := by
  obtain ⟨i, hi, hz, _⟩ := infok
  simp [zeroValue, typeInfo, hi, hz]

theorem cleark {w : World} {g : Nat} {cs : List Value} (hg : w.heap[g]? = some (.cells cs.toArray 109 (0, 0))) {o n c : Nat} (hn : 0 < n) (ho : o + n ≤ cs.length) (ty : TypeId) :
    (Builtin.clear_ #[114] ty #[.slice (some ⟨g, o, none⟩) n c]).run Tryz.prog w = .ok (.tuple #[]) (w.setCells g o (List.replicate n (.pointer none))) :=
  Lib.run_clear_slice w _ 109 ty _ (by kernel_rfl) kid_zero rfl rfl g o n c hn (fun j hj => by simp only [World.cell?, hg]; simp; omega) (fun j hj => by simp [World.frozen?, hg])

theorem clear0k (w : World) (ao : Option Addr) (c : Nat) (ty : TypeId) : (Builtin.clear_ #[114] ty #[.slice ao 0 c]).run Tryz.prog w = .ok (.tuple #[]) w := by
  have hu : ∀ w, (underlying 114).run Tryz.prog w = .ok (.slice 109) w := run_underlying (by kernel_rfl)
  cases ao <;> simp [Builtin.clear_, hu]

/-- j = len(s), room. -/
theorem replace_end {w : World} {B g n i cap vb m vc : Nat} {xs vs : List Value} (ho : w.ownsRow B 109 1 (.slice (some ⟨g, 0, none⟩) n cap) n xs) (hi : i < n) (hm : 0 < m) (hroom : i + m ≤ cap)
    (hv : ReadC w 109 (.slice (some ⟨vb, 0, none⟩) m vc) vs) (h1v : ∀ x ∈ vs, x.oneCell' = true) :
    Calls Tryz.prog 81 #[.slice (some ⟨g, 0, none⟩) n cap, .int .i64 i, .int .i64 n, .slice (some ⟨vb, 0, none⟩) m vc] w fun e w' => Turned w w' B g (i + m) 109 e (xs.take i ++ vs) := by
  obtain ⟨hBg, hnc, hcm, hxl, cs, hcl, hct, hg⟩ := ownsRow_open ho
  have hc63 : cap ≤ 9223372036854775807 := by unfold maxLen at hcm; omega
  have hvl := hv.len
  have hgl := lt_of_block hg
  have hsrc : Src Tryz.prog 1 114 (.slice (some ⟨vb, 0, none⟩) m vc) m vs w := Src.ofSlice w (e' := 109) (by kernel_rfl) ⟨vb, 0, none⟩ m vc vs (by omega) (fun j u hj => by rw [Addr.add_lit]; exact hv.cell hj) h1v
  have HSRC := Lib.hid hsrc
  have HF := Lib.hid (show (∀ j, j < vs.length → (w.cell? ⟨g, 0 + i + j, none⟩).isSome = true) ∧ ∀ j, j < vs.length → w.frozen? ⟨g, 0 + i + j, none⟩ = false from ⟨fun j hj => by simp only [World.cell?, hg]; simp; omega, fun j hj => by simp [World.frozen?, hg]⟩)
  have hg1 : (w.setCells g (0 + i) vs).heap[g]? = some (.cells (spl cs (0 + i) vs).toArray 109 (0, 0)) := setCells_row _ _ _ _ hg (by omega)
  have hl1 : (spl cs (0 + i) vs).length = cap := by rw [spl_length (by omega), hcl]
  have ht1 : (spl cs (0 + i) vs).take (i + m) = xs.take i ++ vs := by
    rw [spl, Nat.zero_add, List.take_append_of_le_length (by rw [List.length_append, List.length_take]; omega), List.take_of_length_le (by rw [List.length_append, List.length_take]; omega), ← hct, List.take_take, Nat.min_eq_left (by omega)]
  have hs1 : Same (fun k => k = g) w (w.setCells g (0 + i) vs) := (Same.refl (fun k => k = g) w).setCells (fun _ => rfl) _ _
  obtain ⟨W1, hW1⟩ : ∃ W1, W1 = w.setCells g (0 + i) vs := ⟨_, rfl⟩
  rw [← hW1] at hg1 hs1
  have HW1 := Lib.hid hW1
  have hin : i ≤ n := by omega
  have hn1 : ¬ ((i : Int) = (n : Int)) := by omega
  have hic : i ≤ cap := by omega
  have hb1 : ¬ (cap = i) := by omega
  by_cases hsh : i + m < n
  · have hsh' : (i : Int) + (m : Int) < (n : Int) := by omega
    have hcl2 := fun ty => cleark hg1 (o := i + m) (n := n - (i + m)) (c := cap - (i + m)) (by omega) (by omega) ty
    have hend : (W1.setCells g (i + m) (List.replicate (n - (i + m)) (.pointer none))).ownsRow B 109 1 (.slice (some ⟨g, 0, none⟩) (i + m) cap) (i + m) (xs.take i ++ vs) := by
      refine ownsRow_shut hBg hroom hcm ?_ ?_ (setCells_row _ _ _ _ hg1 (by rw [List.length_replicate]; omega))
      · rw [spl_length (by rw [List.length_replicate]; omega), hl1]
      · rw [← ht1]
        conv => lhs; rw [spl, List.append_assoc]
        rw [List.take_append_of_le_length (by rw [List.length_take]; omega), List.take_take, Nat.min_self]
    have HE := Lib.hid hend; have HS := Lib.hid (hs1.setCells (fun _ => rfl) (i + m) (List.replicate (n - (i + m)) (.pointer none)))
    have hb2 : ¬ (cap = i + m) := by omega
    have hb3 : i + m ≤ n := by omega
    clear ho hg hct hv hsrc hg1 hs1 hW1 hend ht1
    go_enter Tryz.func81, Tryz.ntmps81
    go_wp2_with (at_builtin; refine wpList_append_room1 w rfl _ _ 114 114 rfl 109 (.pointer none) 8 (by kernel_rfl) kid_info g 0 i cap rfl _ rfl m vs HSRC.out hroom HF.out.1 HF.out.2 ?_; rw [← HW1.out])
    go_ret
    exact ⟨_, _, rfl, HE.out, HS.out⟩
  · have hsh' : ¬ (i : Int) + (m : Int) < (n : Int) := by omega
    have hend : W1.ownsRow B 109 1 (.slice (some ⟨g, 0, none⟩) (i + m) cap) (i + m) (xs.take i ++ vs) := ownsRow_shut hBg hroom hcm hl1 ht1 hg1
    have HE := Lib.hid hend; have HS := Lib.hid hs1
    clear ho hg hct hv hsrc hg1 hs1 hW1 hend ht1
    go_enter Tryz.func81, Tryz.ntmps81
    go_wp2_with (at_builtin; refine wpList_append_room1 w rfl _ _ 114 114 rfl 109 (.pointer none) 8 (by kernel_rfl) kid_info g 0 i cap rfl _ rfl m vs HSRC.out hroom HF.out.1 HF.out.2 ?_; rw [← HW1.out])
    go_ret
    exact ⟨_, _, rfl, HE.out, HS.out⟩

/-- j = len(s), no room. -/
theorem replace_more {w : World} {B g n i cap vb m vc : Nat} {xs vs : List Value} (ho : w.ownsRow B 109 1 (.slice (some ⟨g, 0, none⟩) n cap) n xs) (hB : B ≤ w.heap.size) (hn : n ≤ 100000) (hmm : m ≤ 100000) (hi : i < n) (hm : 0 < m) (hroom : cap < i + m)
    (hv : ReadC w 109 (.slice (some ⟨vb, 0, none⟩) m vc) vs) (h1v : ∀ x ∈ vs, x.oneCell' = true) :
    Calls Tryz.prog 81 #[.slice (some ⟨g, 0, none⟩) n cap, .int .i64 i, .int .i64 n, .slice (some ⟨vb, 0, none⟩) m vc] w fun e w' => Turned w w' B g (i + m) 109 e (xs.take i ++ vs) := by
  obtain ⟨hBg, hnc, hcm, hxl, cs, hcl, hct, hg⟩ := ownsRow_open ho
  have hvl := hv.len
  have hcut : w.ownsRow B 109 1 (.slice (some ⟨g, 0, none⟩) i cap) i (xs.take i) := ownsRow_shut hBg (by omega) hcm hcl (by rw [← hct, List.take_take, Nat.min_eq_left (by omega)]) hg
  have HO := Lib.hid hcut
  have HC := Lib.hid (show ∀ j u, vs[j]? = some u → w.cell? ((⟨vb, 0, none⟩ : Addr).add j) = some u from fun j u hj => by rw [Addr.add_lit]; exact hv.cell hj)
  have HI := Lib.hid infok
  have HV := Lib.hid h1v
  have hin : i ≤ n := by omega
  have hn1 : ¬ ((i : Int) = (n : Int)) := by omega
  have hic : i ≤ cap := by omega
  have hb1 : ¬ (cap = i) := by omega
  have hsh' : ¬ (i : Int) + (m : Int) < (n : Int) := by omega
  clear ho hg hct hv hcut h1v
  go_enter Tryz.func81, Tryz.ntmps81
  go_wp2_with (at_builtin; obtain ⟨i0, hi, hz, hsz, hby⟩ := HI.out; refine wpList_append_own (w := w) rfl _ _ 114 rfl B 109 i0 (.pointer none) 1 8 rfl hi hz hsz hby rfl (by omega) (.slice (some ⟨g, 0, none⟩) i cap) i (xs.take i) rfl HO.out ⟨vb, 0, none⟩ m vc vs rfl ?q1 HC.out HV.out ?q2 ?q3 hB ?_)
  case q2 => unfold maxLen; omega
  case q3 => omega
  intro v' w1 hown hgrow hnil
  have hs : Same (fun k => k = g) w w1 := ⟨hgrow.os, hgrow.tape, hgrow.output, hgrow.size, fun i hi hn => hgrow.block i hi (fun e => hn (by cases e; rfl))⟩
  have hv : ∃ g c, v' = .slice (some ⟨g, 0, none⟩) (i + m) c := by
    rcases hown.2 with ⟨rfl, h2⟩ | ⟨g, c, _, rfl, _⟩
    · omega
    · exact ⟨g, c, rfl⟩
  obtain ⟨g', c', rfl⟩ := hv
  have HW := Lib.hid hown; have HS := Lib.hid hs
  clear hown hgrow hnil hs hi hz hsz hby i0
  go_wp2_with fail
  go_ret
  exact ⟨_, _, rfl, HW.out, HS.out⟩

/-- Where vs stands in a row from i on, what was from j on behind it, j being behind vs. -/
theorem spl_shorter {cs xs vs : List Value} {n i j : Nat} (hxs : cs.take n = xs) (hn : n ≤ cs.length) (hij : i + vs.length ≤ j) (hjn : j ≤ n) :
    (spl (spl cs i vs) (i + vs.length) (xs.drop j)).take (i + vs.length + (n - j)) = xs.take i ++ vs ++ xs.drop j := by
  have hxl : xs.length = n := by rw [← hxs, List.length_take]; omega
  have e1 : (cs.take i).length = i := by rw [List.length_take]; omega
  have e2 : xs.take i = cs.take i := by rw [← hxs, List.take_take]; congr 1; omega
  have e3 : (spl cs i vs).take (i + vs.length) = cs.take i ++ vs := by
    rw [spl, List.take_append_of_le_length (by rw [List.length_append]; omega), List.take_of_length_le (by rw [List.length_append]; omega)]
  have e4 : (xs.drop j).length = n - j := by rw [List.length_drop, hxl]
  rw [spl, e3, e2, List.take_append_of_le_length (by rw [List.length_append, List.length_append]; omega), List.take_of_length_le (by rw [List.length_append, List.length_append]; omega)]

set_option maxHeartbeats 4000000 in
/-- j < len(s), v fits where the old ones were. -/
theorem replace_fit {w : World} {B g n i j cap vb m vc : Nat} {xs vs : List Value} (ho : w.ownsRow B 109 1 (.slice (some ⟨g, 0, none⟩) n cap) n xs) (hn : n ≤ 100000) (hi : i < j) (hj : j < n) (hm : 0 < m) (hfit : i + m ≤ j) (h1 : ∀ x ∈ xs, x.oneCell' = true)
    (hv : ReadC w 109 (.slice (some ⟨vb, 0, none⟩) m vc) vs) (h1v : ∀ x ∈ vs, x.oneCell' = true) :
    Calls Tryz.prog 81 #[.slice (some ⟨g, 0, none⟩) n cap, .int .i64 i, .int .i64 j, .slice (some ⟨vb, 0, none⟩) m vc] w fun e w' => Turned w w' B g (i + m + (n - j)) 109 e (xs.take i ++ vs ++ xs.drop j) := by
  obtain ⟨hBg, hnc, hcm, hxl, cs, hcl, hct, hg⟩ := ownsRow_open ho
  have hc63 : cap ≤ 9223372036854775807 := by unfold maxLen at hcm; omega
  have hvl := hv.len
  have hdl : (xs.drop j).length = n - j := by rw [List.length_drop, hxl]
  have hcpA : ∀ ty dc, (Builtin.copy_ #[114, 114] ty #[.slice (some ⟨g, i, none⟩) (i + m + (n - j) - i) dc, .slice (some ⟨vb, 0, none⟩) m vc]).run Tryz.prog w.drew = .ok (goInt vs.length) (w.drew.setCells g i vs) := fun ty dc =>
    copyk (w := w.drew) hg (by rw [hvl]; simp only [Nat.min_def]; split <;> omega) (by omega) (fun j u hj => by rw [Addr.add_lit]; exact hv.cell hj) h1v ty
  have hg1 : (w.drew.setCells g i vs).heap[g]? = some (.cells (spl cs i vs).toArray 109 (0, 0)) := setCells_row _ _ _ _ hg (by omega)
  have hl1 : (spl cs i vs).length = cap := by rw [spl_length (by omega), hcl]
  have hs1 : Same (fun k => k = g) w (w.drew.setCells g i vs) := ((Same.refl (fun k => k = g) w).drew).setCells (fun _ => rfl) _ _
  obtain ⟨W1, hW1⟩ : ∃ W1, W1 = w.drew.setCells g i vs := ⟨_, rfl⟩
  rw [← hW1] at hcpA hg1 hs1
  have hxs : ∀ q u, (xs.drop j)[q]? = some u → W1.cell? ((⟨g, j, none⟩ : Addr).add q) = some u := fun q u hq => by
    refine cells_read hg1 j q u ?_
    have e : (spl cs i vs).drop j = cs.drop j := by
      have el : (cs.take i ++ vs).length = i + vs.length := by rw [List.length_append, List.length_take]; omega
      rw [spl, List.drop_append, List.drop_of_length_le (by omega : (cs.take i ++ vs).length ≤ j), List.nil_append, List.drop_drop, el]
      congr 1
      omega
    rw [e]
    rw [List.getElem?_drop] at hq ⊢
    rw [← hct, List.getElem?_take] at hq
    split at hq
    · exact hq
    · cases hq
  have hcpB : ∀ ty dc sc, (Builtin.copy_ #[114, 114] ty #[.slice (some ⟨g, i + m, none⟩) (n - j) dc, .slice (some ⟨g, j, none⟩) (n - j) sc]).run Tryz.prog W1.drew = .ok (goInt (xs.drop j).length) (W1.drew.setCells g (i + m) (xs.drop j)) := fun ty dc sc =>
    copyk (w := W1.drew) hg1 (by rw [hdl]; simp only [Nat.min_def]; split <;> omega) (by omega) hxs (fun u hu => h1 u (List.mem_of_mem_drop hu)) ty
  have hg2 : (W1.drew.setCells g (i + m) (xs.drop j)).heap[g]? = some (.cells (spl (spl cs i vs) (i + m) (xs.drop j)).toArray 109 (0, 0)) := setCells_row _ _ _ _ hg1 (by omega)
  have hl2 : (spl (spl cs i vs) (i + m) (xs.drop j)).length = cap := by rw [spl_length (by omega), hl1]
  have ht2 : (spl (spl cs i vs) (i + m) (xs.drop j)).take (i + m + (n - j)) = xs.take i ++ vs ++ xs.drop j := by
    have := spl_shorter (vs := vs) (i := i) (j := j) hct (by omega) (by omega) (by omega)
    rw [hvl] at this
    exact this
  have hs2 : Same (fun k => k = g) w (W1.drew.setCells g (i + m) (xs.drop j)) := (hs1.drew).setCells (fun _ => rfl) _ _
  obtain ⟨W2, hW2⟩ : ∃ W2, W2 = W1.drew.setCells g (i + m) (xs.drop j) := ⟨_, rfl⟩
  rw [← hW2] at hcpB hg2 hs2
  have hq1 : IntKind.i64.wrap ((i : Int) + (m : Int)) = (i : Int) + (m : Int) := by rw [IntKind.wrap_i64]; omega
  have hq2 : IntKind.i64.wrap ((i : Int) + (m : Int) + ((n - j : Nat) : Int)) = (i : Int) + (m : Int) + ((n - j : Nat) : Int) := by rw [IntKind.wrap_i64]; omega
  have hin : i ≤ n := by omega
  have hij : i ≤ j := by omega
  have hjn : j ≤ n := by omega
  have hn1 : ¬ ((i : Int) = (j : Int)) := by omega
  have hn2 : ¬ ((j : Int) = (n : Int)) := by omega
  have hic : i ≤ cap := by omega
  have hb1 : ¬ (cap = i) := by omega
  have hb2 : ¬ (cap = j) := by omega
  have hle : ¬ (cap : Int) < (i : Int) + (m : Int) + ((n - j : Nat) : Int) := by omega
  have hle2 : (i : Int) + (m : Int) ≤ (j : Int) := by omega
  have hb3 : ¬ (cap = i + m) := by omega
  have hnn : (0 : Int) ≤ (i : Int) + (m : Int) := by omega
  have hnn2 : (0 : Int) ≤ (i : Int) + (m : Int) + ((n - j : Nat) : Int) := by omega
  have hmm : i + m ≤ i + m + (n - j) := by omega
  have hmm' : (i : Int) + (m : Int) ≤ (i : Int) + (m : Int) + ((n - j : Nat) : Int) := by omega
  have htn : ((i : Int) + (m : Int)).toNat = i + m := by omega
  have htn2 : ((i : Int) + (m : Int) + ((n - j : Nat) : Int)).toNat = i + m + (n - j) := by omega
  have htot : (i : Int) + (m : Int) + ((n - j : Nat) : Int) ≤ (n : Int) := by omega
  by_cases hsh : i + m < j
  · have hcl2 := fun ty => cleark hg2 (o := i + m + (n - j)) (n := n - (i + m + (n - j))) (c := cap - (i + m + (n - j))) (by omega) (by omega) ty
    have hend : (W2.setCells g (i + m + (n - j)) (List.replicate (n - (i + m + (n - j))) (.pointer none))).ownsRow B 109 1 (.slice (some ⟨g, 0, none⟩) (i + m + (n - j)) cap) (i + m + (n - j)) (xs.take i ++ vs ++ xs.drop j) := by
      refine ownsRow_shut hBg (by omega) hcm ?_ ?_ (setCells_row _ _ _ _ hg2 (by rw [List.length_replicate]; omega))
      · rw [spl_length (by rw [List.length_replicate]; omega), hl2]
      · rw [← ht2]
        conv => lhs; rw [spl, List.append_assoc]
        rw [List.take_append_of_le_length (by rw [List.length_take]; omega), List.take_take, Nat.min_self]
    have HE := Lib.hid hend; have HS := Lib.hid (hs2.setCells (fun _ => rfl) (i + m + (n - j)) (List.replicate (n - (i + m + (n - j))) (.pointer none)))
    have hb4 : ¬ (cap = i + m + (n - j)) := by omega
    clear ho hg hct hv hg1 hs1 hW1 ht2 hxs hW2 hg2 hs2 hend
    go_enter Tryz.func81, Tryz.ntmps81
    go_wp2_with fail
    go_region
    go_wp2_with fail
    go_region_law (refine step_copy_runI rfl _ _ 114 114 rfl (.slice (some ⟨g, i + m, none⟩) (n - j) (cap - (i + m))) (.slice (some ⟨g, j, none⟩) (n - j) (cap - j)) (by simp [Act.eval, Act.put]) (by simp [Act.eval, Act.put]) (hcpB 3 (cap - (i + m)) (cap - j)) ?_)
    go_wp2_with fail
    go_ret
    exact ⟨_, _, rfl, HE.out, HS.out⟩
  · have hend : W2.ownsRow B 109 1 (.slice (some ⟨g, 0, none⟩) (i + m + (n - j)) cap) (i + m + (n - j)) (xs.take i ++ vs ++ xs.drop j) := ownsRow_shut hBg (by omega) hcm hl2 ht2 hg2
    have HE := Lib.hid hend; have HS := Lib.hid hs2
    have hz : n - (i + m + (n - j)) = 0 := by omega
    clear ho hg hct hv hg1 hs1 hW1 ht2 hxs hW2 hg2 hs2 hend
    by_cases hb4 : cap = i + m + (n - j)
    all_goals (
      have HB4 := Lib.hid hb4
      have HZ := Lib.hid hz
      clear hb4 hz
      go_enter Tryz.func81, Tryz.ntmps81
      go_wp2_with fail
      go_region
      go_wp2_with fail
      go_region_law (refine step_copy_runI rfl _ _ 114 114 rfl (.slice (some ⟨g, i + m, none⟩) (n - j) (cap - (i + m))) (.slice (some ⟨g, j, none⟩) (n - j) (cap - j)) (by simp [Act.eval, Act.put]) (by simp [Act.eval, Act.put]) (hcpB 3 (cap - (i + m)) (cap - j)) ?_)
      go_upto_region 19 with fail
      have hb4 := HB4.out
      have hz := HZ.out
      have hc0 := clear0k
      go_wp2_with fail
      go_ret
      exact ⟨_, _, rfl, HE.out, HS.out⟩)

end Go.Proofs.YtgfmemggfbgjeaaGreatDoor
