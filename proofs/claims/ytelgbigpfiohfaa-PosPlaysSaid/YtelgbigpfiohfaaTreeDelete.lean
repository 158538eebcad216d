/-
  slices.Delete of one number in a row of the call's own. Conditions: the row isn't long.
-/
import Derived.Test.YtelgbigpfiohfaaTreeGatherI
import Derived.Deep.RegionLaw
namespace Go.Proofs.Ytelgbigpfiohfaa
open Go.RowKit Go.Extern.Stop Go.Stop Go.Extern Go.Lib
set_option maxRecDepth 1000000

theorem int_zero (w : World) : (zeroValue 2).run Try.prog w = .ok (.int .i64 0) w := by
  obtain ⟨i, hi, hz, _⟩ := infoi
  simp [zeroValue, typeInfo, hi, hz]

theorem cleari {w : World} {g : Nat} {cs : List Value} (hg : w.heap[g]? = some (.cells cs.toArray 2 (0, 0))) {o n c : Nat} (hn : 0 < n) (ho : o + n ≤ cs.length) (ty : TypeId) :
    (Builtin.clear_ #[38] ty #[.slice (some ⟨g, o, none⟩) n c]).run Try.prog w = .ok (.tuple #[]) (w.setCells g o (List.replicate n (.int .i64 0))) :=
  Lib.run_clear_slice w _ 2 ty _ (by kernel_rfl) int_zero rfl rfl g o n c hn (fun j hj => by simp only [World.cell?, hg]; simp; omega) (fun j hj => by simp [World.frozen?, hg])

set_option maxHeartbeats 4000000 in
theorem delete_any {w : World} {B g n i cap : Nat} {xs : List Value} (ho : w.ownsRow B 2 1 (.slice (some ⟨g, 0, none⟩) n cap) n xs) (hn : n ≤ 100000) (hi : i < n) (h1 : ∀ x ∈ xs, x.oneCell' = true) :
    Calls Try.prog 64 #[.slice (some ⟨g, 0, none⟩) n cap, .int .i64 i, .int .i64 ((i : Int) + 1)] w fun e w' => Turned w w' B g (n - 1) 2 e (xs.take i ++ xs.drop (i + 1)) := by
  obtain ⟨hBg, hnc, hcm, hxl, cs, hcl, hct, hg⟩ := ownsRow_open ho
  have hc63 : cap ≤ 9223372036854775807 := by unfold maxLen at hcm; omega
  have hdl : (xs.drop (i + 1)).length = n - (i + 1) := by rw [List.length_drop, hxl]
  have hxs : ∀ q u, (xs.drop (i + 1))[q]? = some u → w.drew.cell? ((⟨g, i + 1, none⟩ : Addr).add q) = some u := fun q u hq => by
    refine cells_read (w := w.drew) hg (i + 1) q u ?_
    rw [List.getElem?_drop] at hq ⊢
    rw [← hct, List.getElem?_take] at hq
    split at hq
    · exact hq
    · cases hq
  obtain ⟨A, hA, hsrc⟩ : ∃ A : Addr, (if cap = i + 1 then some (⟨g, 0, none⟩ : Addr) else some ⟨g, i + 1, none⟩) = some A ∧ Hid (∀ q u, (xs.drop (i + 1))[q]? = some u → w.drew.cell? (A.add q) = some u) := by
    by_cases h : cap = i + 1
    · refine ⟨⟨g, 0, none⟩, by simp [h], fun q u hq => ?_⟩
      have h0 : (xs.drop (i + 1)).length = 0 := by rw [hdl]; omega
      rw [List.length_eq_zero_iff.1 h0] at hq
      simp at hq
    · exact ⟨⟨g, i + 1, none⟩, by simp [h], hxs⟩
  have s1 : Hid ((xs.drop (i + 1)).length = (n - (i + 1)) * 1) := by rw [Nat.mul_one]; exact hdl
  have s2 : Hid (∀ u ∈ xs.drop (i + 1), u.oneCell' = true) := fun u hu => h1 u (List.mem_of_mem_drop hu)
  have s3 : Hid (∀ q, q < (xs.drop (i + 1)).length → (w.drew.cell? ⟨g, 0 + i * 1 + q, none⟩).isSome = true ∧ w.drew.frozen? ⟨g, 0 + i * 1 + q, none⟩ = false) := fun q hq => by
    rw [hdl] at hq
    exact ⟨by show (w.cell? _).isSome = true; simp only [World.cell?, hg]; simp; omega, by show w.frozen? _ = false; simp [World.frozen?, hg]⟩
  have hg1 : (w.drew.setCells g (0 + i * 1) (xs.drop (i + 1))).heap[g]? = some (.cells (spl cs (0 + i * 1) (xs.drop (i + 1))).toArray 2 (0, 0)) := setCells_row _ _ _ _ hg (by omega)
  have hl1 : (spl cs (0 + i * 1) (xs.drop (i + 1))).length = cap := by rw [spl_length (by omega), hcl]
  have hs1 : Same (fun k => k = g) w (w.drew.setCells g (0 + i * 1) (xs.drop (i + 1))) := ((Same.refl (fun k => k = g) w).drew).setCells (fun _ => rfl) _ _
  have ht1 : (spl cs (0 + i * 1) (xs.drop (i + 1))).take (n - 1) = xs.take i ++ xs.drop (i + 1) := by
    have e2 : xs.take i = cs.take i := by rw [← hct, List.take_take]; congr 1; omega
    have e1 : (cs.take i).length = i := by rw [List.length_take]; omega
    rw [show 0 + i * 1 = i by omega, spl, List.take_append_of_le_length (by rw [List.length_append]; omega), List.take_of_length_le (by rw [List.length_append]; omega), e2]
  obtain ⟨W1, hW1⟩ : ∃ W1, W1 = w.drew.setCells g (0 + i * 1) (xs.drop (i + 1)) := ⟨_, rfl⟩
  rw [← hW1] at hg1 hs1
  have hcl2 := fun ty => cleari hg1 (o := n - 1) (n := 1) (c := cap - (n - 1)) (by omega) (by omega) ty
  have hend : (W1.setCells g (n - 1) (List.replicate 1 (.int .i64 0))).ownsRow B 2 1 (.slice (some ⟨g, 0, none⟩) (n - 1) cap) (n - 1) (xs.take i ++ xs.drop (i + 1)) := by
    refine ownsRow_shut hBg (by omega) hcm ?_ ?_ (setCells_row _ _ _ _ hg1 (by rw [List.length_replicate]; omega))
    · rw [spl_length (by rw [List.length_replicate]; omega), hl1]
    · rw [← ht1]
      conv => lhs; rw [spl, List.append_assoc]
      rw [List.take_append_of_le_length (by rw [List.length_take]; omega), List.take_take, Nat.min_self]
  have HE := Lib.hid hend; have HS := Lib.hid (hs1.setCells (fun _ => rfl) (n - 1) (List.replicate 1 (.int .i64 0)))
  have HW1 := Lib.hid hW1
  obtain ⟨i0, hi0, hz0, hz1, hby⟩ := infoi
  have hin : i ≤ n := by omega
  have hii : (i : Int) + 1 ≤ (n : Int) := by omega
  have hne : ¬ ((i : Int) = (i : Int) + 1) := by omega
  have hic : i ≤ cap := by omega
  have hn1 : i + 1 ≤ n := by omega
  have hlen : i + (n - (i + 1)) = n - 1 := by omega
  have hb2 : ¬ (cap = n - 1) := by omega
  have hn9 : n - (n - 1) = 1 := by omega
  have hnn : (0 : Int) ≤ (i : Int) + 1 := by omega
  have htn : ((i : Int) + 1).toNat = i + 1 := by omega
  have hn8 : n - 1 ≤ n := by omega
  have hn7 : ((n - 1 : Nat) : Int) ≤ (n : Int) := by omega
  have hn6 : n ≤ cap := hnc
  clear ho hg hct hxs hg1 hs1 hW1 hend ht1 hl1
  go_enter Try.func64, Try.ntmps64
  go_wp2_with fail
  go_region_law (refine step_append_room rfl (.tmp 22) (.tmp 25) 38 rfl 2 i0 1 (by kernel_rfl) hi0 hz1 g 0 i cap (by simp [Act.eval, Act.put]) A (n - (i + 1)) (cap - (i + 1)) (xs.drop (i + 1)) (by simp [Act.eval, Act.put]) s1.out hsrc.out s2.out (by omega) s3.out ?_; rw [← HW1.out])
  go_wp2_with fail
  go_ret
  exact ⟨_, _, rfl, HE.out, HS.out⟩

end Go.Proofs.Ytelgbigpfiohfaa
