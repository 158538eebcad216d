/-
  tree's cut: a list as it is, or as two rows of the call's own. Conditions: the list isn't empty, has sixteen entries at most.
-/
import Derived.Test.YtgfmemggfbgjeaaGreatDoorM6
namespace Go.Proofs.YtgfmemggfbgjeaaGreatDoor
open Go.RowKit Go.Extern.Stop Go.Stop Go.Extern Go.Lib
set_option maxRecDepth 1000000

/-- A list in parts: one, or two that are great enough. -/
def Parts {α : Type} (l : List α) (ls : List (List α)) : Prop := (l.length ≤ 8 ∧ ls = [l]) ∨ (8 < l.length ∧ ∃ a b, ls = [a, b] ∧ l = a ++ b ∧ 4 ≤ a.length ∧ a.length ≤ 8 ∧ 4 ≤ b.length ∧ b.length ≤ 8)

/-- What cut hands back. -/
def Cuti (w : World) (P : Nat → Prop) (e : Value) (l : List En) : Prop := ∃ (vs : List Value) (ls : List (List En)), ReadC w 61 e vs ∧ (∀ v ∈ vs, ∀ k, v.ownBlock = some k → P k ∧ k < w.heap.size) ∧ vs.length = ls.length ∧ (∀ (j : Nat) (v : Value) (m : List En), vs[j]? = some v → ls[j]? = some m → ReadE w v m) ∧ Parts l ls

theorem cut_endi {w w1 w2 : World} {l : List En} {m g1 g2 p1 p2 B1 B2 : Nat} (h8 : ¬ l.length ≤ 8) (hn : l.length ≤ 16) (hm : m ≤ l.length) (hd : (l.length : Int).tdiv 2 = (m : Int))
    (o1 : w1.ownsRow B1 57 2 (.slice (some ⟨g1, 0, none⟩) (l.take m).length p1) (l.take m).length (entsV (l.take m))) (s1 : Same (fun _ => False) w w1)
    (o2 : w2.ownsRow B2 57 2 (.slice (some ⟨g2, 0, none⟩) (l.drop m).length p2) (l.drop m).length (entsV (l.drop m))) (s2 : Same (fun _ => False) w1 w2) {P : Nat → Prop} (hPf : ∀ k, w.heap.size ≤ k → P k) (hB1 : w.heap.size ≤ B1) (hB2 : w.heap.size ≤ B2) :
    ∃ u, Ending.returned (.slice (some ⟨w2.heap.size, 0, none⟩) 2 2) = .returned u ∧ Cuti (w2.alloc (.cells #[.slice (some ⟨g1, 0, none⟩) m p1, .slice (some ⟨g2, 0, none⟩) (l.length - m) p2] 61)) P u l ∧ Same (fun _ => False) w (w2.alloc (.cells #[.slice (some ⟨g1, 0, none⟩) m p1, .slice (some ⟨g2, 0, none⟩) (l.length - m) p2] 61)) := by
  have hm2 : m = l.length / 2 := by
    have : (l.length : Int).tdiv 2 = ((l.length / 2 : Nat) : Int) := rfl
    omega
  have t1 : (l.take m).length = m := by rw [List.length_take]; omega
  have t2 : (l.drop m).length = l.length - m := by rw [List.length_drop]
  rw [t1] at o1
  rw [t2] at o2
  have r1 := (ownsRow_readZ o1).kept (s2.alloc (.cells #[.slice (some ⟨g1, 0, none⟩) m p1, .slice (some ⟨g2, 0, none⟩) (l.length - m) p2] 61)) (fun _ _ => id)
  have r2 := (ownsRow_readZ o2).kept ((Same.refl (fun _ => False) w2).alloc (.cells #[.slice (some ⟨g1, 0, none⟩) m p1, .slice (some ⟨g2, 0, none⟩) (l.length - m) p2] 61)) (fun _ _ => id)
  have hq := heap_alloc_new w2 (.cells #[.slice (some ⟨g1, 0, none⟩) m p1, .slice (some ⟨g2, 0, none⟩) (l.length - m) p2] 61)
  have hs := (s1.trans s2 (fun _ _ h => h)).alloc (.cells #[.slice (some ⟨g1, 0, none⟩) m p1, .slice (some ⟨g2, 0, none⟩) (l.length - m) p2] 61)
  refine ⟨_, rfl, ⟨[.slice (some ⟨g1, 0, none⟩) m p1, .slice (some ⟨g2, 0, none⟩) (l.length - m) p2], [l.take m, l.drop m], ⟨_, 2, rfl, fun j v hj => ⟨_, _, _, _, rfl, hq, ?_⟩, by simp⟩, ?_, rfl, fun j v a hj ha => ?_, Or.inr ⟨by omega, _, _, rfl, (List.take_append_drop m l).symm, ?_, ?_, ?_, ?_⟩⟩, hs⟩
  · simp only [World.cell?, hq]
    simpa using hj
  · intro v hv k hk
    have e1 := o1.lt k
    have e2 := o2.lt k
    have e3 := s2.size
    simp only [List.mem_cons, List.not_mem_nil, or_false] at hv
    rcases hv with rfl | rfl
    · exact ⟨hPf k (by have := e1 hk; omega), by have := e1 hk; simp; omega⟩
    · exact ⟨hPf k (by have := e2 hk; omega), by have := e2 hk; simp; omega⟩
  · rcases j with _ | _ | j
    · cases hj; cases ha
      exact r1
    · cases hj; cases ha
      exact r2
    · cases hj
  all_goals omega

set_option maxHeartbeats 8000000 in
theorem cuti {w : World} {v : Value} {l : List En} (h : ReadE w v l) (h0 : 0 < l.length) (hn : l.length ≤ 16) {P : Nat → Prop} (hP : ∀ k, v.ownBlock = some k → P k) (hPf : ∀ k, w.heap.size ≤ k → P k) :
    Calls Tryz.prog 97 #[v] w fun e w' => ∃ u, e = .returned u ∧ Cuti w' P u l ∧ Same (fun _ => False) w w' := by
  obtain ⟨b, off, cap, cs, fr, rfl, hb, hcap⟩ := h.where h0
  by_cases h8 : l.length ≤ 8
  · have h8' : (l.length : Int) ≤ 8 := by omega
    have HR := Lib.hid h
    have hlb := lt_of_block hb
    clear h hb
    go_enter Tryz.func97, Tryz.ntmps97
    go_wp2_with fail
    have hs : Same (fun _ => False) w (w.alloc (.cells #[.slice (some ⟨b, off, none⟩) l.length cap] 61)) := (Same.refl _ w).alloc _
    have hq : (w.alloc (.cells #[.slice (some ⟨b, off, none⟩) l.length cap] 61)).heap[w.heap.size]? = some (.cells #[.slice (some ⟨b, off, none⟩) l.length cap] 61 (0, 0)) := heap_alloc_new _ _
    go_ret
    refine ⟨_, rfl, ⟨[.slice (some ⟨b, off, none⟩) l.length cap], [l], ⟨_, 1, rfl, fun j v hj => ⟨_, _, _, _, rfl, hq, ?_⟩, by simp⟩, ?_, rfl, fun j v m hj hm => ?_, Or.inl ⟨h8, rfl⟩⟩, hs⟩
    · simp only [World.cell?, hq]
      simpa using hj
    · intro v hv k hk
      simp only [List.mem_singleton] at hv
      subst hv
      exact ⟨hP k hk, by cases hk; exact Nat.lt_of_lt_of_le hlb hs.size⟩
    · cases j with
      | zero =>
        cases hj; cases hm
        exact HR.out.kept hs (fun _ _ => id)
      | succ j => cases hj
  · have h8' : ¬ (l.length : Int) ≤ 8 := by omega
    obtain ⟨m, hm⟩ : ∃ m, m = l.length / 2 := ⟨_, rfl⟩
    have hdiv : (l.length : Int).tdiv 2 = (m : Int) := by rw [hm]; rfl
    have hm1 : m ≤ l.length := by omega
    have hm1' : (m : Int) ≤ (l.length : Int) := by omega
    have hm2 : ¬ cap = m := by omega
    have hm3 : m ≤ cap := by omega
    have hm3' : (m : Int) ≤ (cap : Int) := by omega
    have HA := Lib.hid (fun (w1 : World) (hs : Same (fun _ => False) w w1) => clonei ((h.take hm1).kept hs (fun _ _ => id)) (by rw [List.length_take]; omega) (by rw [List.length_take]; omega))
    have HB := Lib.hid (fun (w1 : World) (hs : Same (fun _ => False) w w1) => clonei ((h.drop hm1).kept hs (fun _ _ => id)) (by rw [List.length_drop]; omega) (by rw [List.length_drop]; omega))
    have HS0 := Lib.hid (Same.refl (fun _ => False) w)
    clear h hb hm
    go_enter Tryz.func97, Tryz.ntmps97
    go_wp2_with fail
    go_region_with (first
      | (go_at_call 79; with_reducible refine (HA.out _ ?_).mono ?_; (focus (first | exact HS0.out | exact HS0.out.drew)); rintro e w1 ⟨g1, p1, rfl, o1, s1⟩; have O1 := Lib.hid o1; have S1 := Lib.hid (Same.trans (by first | exact HS0.out | exact HS0.out.drew) s1 (fun _ _ h => h)); clear o1 s1)
      | (go_at_call 79; with_reducible refine (HB.out _ ?_).mono ?_; (focus (first | exact S1.out | exact S1.out.drew)); rintro e w2 ⟨g2, p2, rfl, o2, s2⟩; have O2 := Lib.hid o2; have S2 := Lib.hid s2; clear o2 s2))
    all_goals go_wp2_with fail
    all_goals go_ret
    all_goals exact cut_endi h8 hn hm1 hdiv O1.out S1.out O2.out S2.out hPf (Nat.le_refl _) S1.out.size

/-- What cut hands back. -/
def Cutk (w : World) (P : Nat → Prop) (e : Value) (l : List Value) : Prop := ∃ (vs : List Value) (ls : List (List Value)), ReadC w 114 e vs ∧ (∀ v ∈ vs, ∀ k, v.ownBlock = some k → P k ∧ k < w.heap.size) ∧ vs.length = ls.length ∧ (∀ (j : Nat) (v : Value) (m : List Value), vs[j]? = some v → ls[j]? = some m → ReadC w 109 v m) ∧ Parts l ls

theorem cut_endk {w w1 w2 : World} {l : List Value} {m g1 g2 p1 p2 B1 B2 : Nat} (h8 : ¬ l.length ≤ 8) (hn : l.length ≤ 16) (hm : m ≤ l.length) (hd : (l.length : Int).tdiv 2 = (m : Int))
    (o1 : w1.ownsRow B1 109 1 (.slice (some ⟨g1, 0, none⟩) (l.take m).length p1) (l.take m).length (l.take m)) (s1 : Same (fun _ => False) w w1)
    (o2 : w2.ownsRow B2 109 1 (.slice (some ⟨g2, 0, none⟩) (l.drop m).length p2) (l.drop m).length (l.drop m)) (s2 : Same (fun _ => False) w1 w2) {P : Nat → Prop} (hPf : ∀ k, w.heap.size ≤ k → P k) (hB1 : w.heap.size ≤ B1) (hB2 : w.heap.size ≤ B2) :
    ∃ u, Ending.returned (.slice (some ⟨w2.heap.size, 0, none⟩) 2 2) = .returned u ∧ Cutk (w2.alloc (.cells #[.slice (some ⟨g1, 0, none⟩) m p1, .slice (some ⟨g2, 0, none⟩) (l.length - m) p2] 114)) P u l ∧ Same (fun _ => False) w (w2.alloc (.cells #[.slice (some ⟨g1, 0, none⟩) m p1, .slice (some ⟨g2, 0, none⟩) (l.length - m) p2] 114)) := by
  have hm2 : m = l.length / 2 := by
    have : (l.length : Int).tdiv 2 = ((l.length / 2 : Nat) : Int) := rfl
    omega
  have t1 : (l.take m).length = m := by rw [List.length_take]; omega
  have t2 : (l.drop m).length = l.length - m := by rw [List.length_drop]
  rw [t1] at o1
  rw [t2] at o2
  have r1 := (ownsRow_read o1).kept (s2.alloc (.cells #[.slice (some ⟨g1, 0, none⟩) m p1, .slice (some ⟨g2, 0, none⟩) (l.length - m) p2] 114)) (fun _ _ => id)
  have r2 := (ownsRow_read o2).kept ((Same.refl (fun _ => False) w2).alloc (.cells #[.slice (some ⟨g1, 0, none⟩) m p1, .slice (some ⟨g2, 0, none⟩) (l.length - m) p2] 114)) (fun _ _ => id)
  have hq := heap_alloc_new w2 (.cells #[.slice (some ⟨g1, 0, none⟩) m p1, .slice (some ⟨g2, 0, none⟩) (l.length - m) p2] 114)
  have hs := (s1.trans s2 (fun _ _ h => h)).alloc (.cells #[.slice (some ⟨g1, 0, none⟩) m p1, .slice (some ⟨g2, 0, none⟩) (l.length - m) p2] 114)
  refine ⟨_, rfl, ⟨[.slice (some ⟨g1, 0, none⟩) m p1, .slice (some ⟨g2, 0, none⟩) (l.length - m) p2], [l.take m, l.drop m], ⟨_, 2, rfl, fun j v hj => ⟨_, _, _, _, rfl, hq, ?_⟩, by simp⟩, ?_, rfl, fun j v a hj ha => ?_, Or.inr ⟨by omega, _, _, rfl, (List.take_append_drop m l).symm, ?_, ?_, ?_, ?_⟩⟩, hs⟩
  · simp only [World.cell?, hq]
    simpa using hj
  · intro v hv k hk
    have e1 := o1.lt k
    have e2 := o2.lt k
    have e3 := s2.size
    simp only [List.mem_cons, List.not_mem_nil, or_false] at hv
    rcases hv with rfl | rfl
    · exact ⟨hPf k (by have := e1 hk; omega), by have := e1 hk; simp; omega⟩
    · exact ⟨hPf k (by have := e2 hk; omega), by have := e2 hk; simp; omega⟩
  · rcases j with _ | _ | j
    · cases hj; cases ha
      exact r1
    · cases hj; cases ha
      exact r2
    · cases hj
  all_goals omega

set_option maxHeartbeats 8000000 in
theorem cutk {w : World} {v : Value} {l : List Value} (h : ReadC w 109 v l) (h0 : 0 < l.length) (hn : l.length ≤ 16) (h1 : ∀ x ∈ l, x.oneCell' = true) {P : Nat → Prop} (hP : ∀ k, v.ownBlock = some k → P k) (hPf : ∀ k, w.heap.size ≤ k → P k) :
    Calls Tryz.prog 100 #[v] w fun e w' => ∃ u, e = .returned u ∧ Cutk w' P u l ∧ Same (fun _ => False) w w' := by
  obtain ⟨b, off, cap, cs, fr, rfl, hb, hcap⟩ := h.where h0
  by_cases h8 : l.length ≤ 8
  · have h8' : (l.length : Int) ≤ 8 := by omega
    have HR := Lib.hid h
    have hlb := lt_of_block hb
    clear h hb
    go_enter Tryz.func100, Tryz.ntmps100
    go_wp2_with fail
    have hs : Same (fun _ => False) w (w.alloc (.cells #[.slice (some ⟨b, off, none⟩) l.length cap] 114)) := (Same.refl _ w).alloc _
    have hq : (w.alloc (.cells #[.slice (some ⟨b, off, none⟩) l.length cap] 114)).heap[w.heap.size]? = some (.cells #[.slice (some ⟨b, off, none⟩) l.length cap] 114 (0, 0)) := heap_alloc_new _ _
    go_ret
    refine ⟨_, rfl, ⟨[.slice (some ⟨b, off, none⟩) l.length cap], [l], ⟨_, 1, rfl, fun j v hj => ⟨_, _, _, _, rfl, hq, ?_⟩, by simp⟩, ?_, rfl, fun j v m hj hm => ?_, Or.inl ⟨h8, rfl⟩⟩, hs⟩
    · simp only [World.cell?, hq]
      simpa using hj
    · intro v hv k hk
      simp only [List.mem_singleton] at hv
      subst hv
      exact ⟨hP k hk, by cases hk; exact Nat.lt_of_lt_of_le hlb hs.size⟩
    · cases j with
      | zero =>
        cases hj; cases hm
        exact HR.out.kept hs (fun _ _ => id)
      | succ j => cases hj
  · have h8' : ¬ (l.length : Int) ≤ 8 := by omega
    obtain ⟨m, hm⟩ : ∃ m, m = l.length / 2 := ⟨_, rfl⟩
    have hdiv : (l.length : Int).tdiv 2 = (m : Int) := by rw [hm]; rfl
    have hm1 : m ≤ l.length := by omega
    have hm1' : (m : Int) ≤ (l.length : Int) := by omega
    have hm2 : ¬ cap = m := by omega
    have hm3 : m ≤ cap := by omega
    have hm3' : (m : Int) ≤ (cap : Int) := by omega
    have HA := Lib.hid (fun (w1 : World) (hs : Same (fun _ => False) w w1) => clonek ((h.take hm1).kept hs (fun _ _ => id)) (by rw [List.length_take]; omega) (by rw [List.length_take]; omega) (fun x hx => h1 x (List.mem_of_mem_take hx)))
    have HB := Lib.hid (fun (w1 : World) (hs : Same (fun _ => False) w w1) => clonek ((h.drop hm1).kept hs (fun _ _ => id)) (by rw [List.length_drop]; omega) (by rw [List.length_drop]; omega) (fun x hx => h1 x (List.mem_of_mem_drop hx)))
    have HS0 := Lib.hid (Same.refl (fun _ => False) w)
    clear h hb hm
    go_enter Tryz.func100, Tryz.ntmps100
    go_wp2_with fail
    go_region_with (first
      | (go_at_call 82; with_reducible refine (HA.out _ ?_).mono ?_; (focus (first | exact HS0.out | exact HS0.out.drew)); rintro e w1 ⟨g1, p1, rfl, o1, s1⟩; have O1 := Lib.hid o1; have S1 := Lib.hid (Same.trans (by first | exact HS0.out | exact HS0.out.drew) s1 (fun _ _ h => h)); clear o1 s1)
      | (go_at_call 82; with_reducible refine (HB.out _ ?_).mono ?_; (focus (first | exact S1.out | exact S1.out.drew)); rintro e w2 ⟨g2, p2, rfl, o2, s2⟩; have O2 := Lib.hid o2; have S2 := Lib.hid s2; clear o2 s2))
    all_goals go_wp2_with fail
    all_goals go_ret
    all_goals exact cut_endk h8 hn hm1 hdiv O1.out S1.out O2.out S2.out hPf (Nat.le_refl _) S1.out.size

end Go.Proofs.YtgfmemggfbgjeaaGreatDoor
