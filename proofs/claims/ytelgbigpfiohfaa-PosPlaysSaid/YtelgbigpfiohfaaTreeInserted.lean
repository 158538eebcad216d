/-
  tree's inserted: a node with one element more. Conditions: few elements, a small count of writes.
-/
import Derived.Test.YtelgbigpfiohfaaTreeReplaceG
namespace Go.Proofs.Ytelgbigpfiohfaa
open Go.RowKit Go.Extern.Stop Go.Stop Go.Extern Go.Lib
set_option maxRecDepth 1000000

/-- What inserted hands back. -/
def Ins (w w' : World) (P : Nat → Prop) (h : Nat) (t : Nat) (r : Value) (c : Int) (s : Nat) (L' : List Int) (e : Ending) : Prop :=
  ∃ g cap ks, e = .returned (.slice (some ⟨g, 0, none⟩) ks.length cap) ∧ w'.ownsRow w.heap.size 74 1 (.slice (some ⟨g, 0, none⟩) ks.length cap) ks.length (kidsV ks) ∧ kidsL ks = L' ∧ (∀ k ∈ ks, NodeAt w' P h k.b k.s k.L) ∧
    ((∃ k, ks = [k] ∧ s ≤ k.s) ∨ ∃ a b, ks = [a, b] ∧ 4 ≤ a.s ∧ 4 ≤ b.s) ∧ (∃ d : Nat, d ≤ 2 * (h + 1) ∧ w'.heap[t]? = some (headObj r (c + d))) ∧ Same (fun k => k = t) w w'

/-- What leaves and inners hand back, as inserted's. -/
theorem ins_of_made {w w3 w' : World} {P : Nat → Prop} {h t n s : Nat} {r : Value} {c : Int} {d : Nat} {L' : List Int} {g cap : Nat} {ks : List Kid} (hs : Same (fun k => k = t) w w3) (ho : w'.ownsRow w3.heap.size 74 1 (.slice (some ⟨g, 0, none⟩) ks.length cap) ks.length (kidsV ks))
    (hm : Made w' P h n L' ks) (hn : s ≤ n) (hh : w'.heap[t]? = some (headObj r (c + d + ks.length))) (hd : d ≤ 2 * h) (hs2 : Same (fun k => k = t) w3 w') : Ins w w' P h t r c s L' (.returned (.slice (some ⟨g, 0, none⟩) ks.length cap)) := by
  obtain ⟨a1, a2, a3, a4, cs, a5, a6, a7⟩ := ownsRow_open ho
  obtain ⟨h1, h2, h3⟩ := hm
  have hkl : ks.length ≤ 2 := by
    rcases h3 with ⟨_, k, rfl, _⟩ | ⟨_, a, b, rfl, _⟩ <;> simp
  refine ⟨g, cap, ks, rfl, ownsRow_shut (by have := hs.size; omega) a2 a3 a5 a6 a7, h1, h2, ?_, ⟨d + ks.length, by omega, by rw [hh, show c + ((d + ks.length : Nat) : Int) = c + d + ks.length by omega]⟩, hs.trans hs2 (fun _ _ h => h)⟩
  rcases h3 with ⟨_, k, hk, hks⟩ | ⟨_, a, b, hk, ha, hb⟩
  · exact Or.inl ⟨k, hk, by omega⟩
  · exact Or.inr ⟨a, b, hk, ha, hb⟩

theorem intsV_insert (L : List Int) (i : Nat) (v : Int) : (intsV L).take i ++ [.int .i64 v] ++ (intsV L).drop i = intsV (L.take i ++ v :: L.drop i) := by
  simp [intsV, List.map_append, List.map_take, List.map_drop]

set_option maxHeartbeats 4000000 in
theorem inserted_leaf {w : World} {P : Nat → Prop} {t b s i : Nat} {r : Value} {c v : Int} {L : List Int} (ht : w.heap[t]? = some (headObj r c)) (hc : 0 ≤ c ∧ c ≤ 800000000) (hn : NodeAt w P 0 b s L) (hs0 : 0 < s) (hi : i ≤ L.length) (hP : ∀ k, w.heap.size ≤ k → P k) :
    Calls Try.prog 51 #[.pointer (some ⟨t, 0, none⟩), .pointer (some ⟨b, 0, none⟩), .int .i64 i, .int .i64 v] w fun e w' => Ins w w' P 0 t r c s (L.take i ++ v :: L.drop i) e := by
  obtain ⟨hs, h8, hpb, l, hb, hr, hlP⟩ := hn
  subst hs
  obtain ⟨n0, n1, n2, nf⟩ := node_cells hb
  have hlb := lt_of_block hb
  have hlt := lt_of_block ht
  have HCL := Lib.hid (clonei hr (by simpa using hs0) (by simp; omega) (ints_one L))
  have HT := Lib.hid ht; have HP := Lib.hid hP
  clear hr ht hb hP hlP n2 nf
  go_enter Try.func51, Try.ntmps51
  go_wp2_with fail
  refine HCL.out.mono ?_
  rintro e w1 ⟨g1, p1, rfl, o1, s1⟩
  simp only [List.length_map] at o1
  have hg1 := (o1.lt g1 rfl)
  have hl1 : w1.heap.size < (w1.alloc (.cells #[.int .i64 v] 2)).heap.size := by simp
  have HINS := Lib.hid (insert_any (w := w1.alloc (.cells #[.int .i64 v] 2)) (vb := w1.heap.size) (vc := 1) (i := i) (v := .int .i64 v) (o1.alloc _) (by have := s1.size; simp; omega) (by omega) hi (ints_one L) (heap_alloc_new _ _) rfl (by omega))
  have S1 := Lib.hid s1
  clear o1 s1
  go_wp2_with fail
  refine HINS.out.mono ?_
  rintro e w3 ⟨g3, p3, rfl, o3, s3⟩
  rw [intsV_insert] at o3
  have hs13 : Same (fun k => k = t) w w3 := (((S1.out.weaken (F' := fun k => k = t) (fun _ _ h => h.elim)).alloc (.cells #[.int .i64 v] 2)).trans s3 (fun k hk e => by omega))
  have h3t : w3.heap[t]? = some (headObj r c) := by
    refine s3.obj (((Same.refl (fun _ => False) w1).alloc _).obj (S1.out.obj HT.out id) id) (fun e => by omega)
  have hln : (L.take i ++ v :: L.drop i).length = L.length + 1 := by simp; omega
  have HLV := Lib.hid (leaves_any (P := P) h3t ⟨hc.1, by omega⟩ (ownsRow_read o3) (by omega) (by omega) (fun k hk => HP.out k (by have := (o3.lt k hk).1; omega)) (fun k hk => HP.out k (by have := hs13.size; omega)))
  have S13 := Lib.hid hs13
  clear o3 s3 hs13 h3t
  go_wp2_with fail
  refine HLV.out.mono ?_
  rintro e w4 ⟨g4, p4, ks, rfl, o4, m4, h4, s4⟩
  have hin := ins_of_made (d := 0) (s := L.length) S13.out o4 m4 (by omega) (by simpa using h4) (by omega) s4
  have HIN := Lib.hid hin
  clear o4 m4 h4 s4 hin
  go_wp2_with fail
  go_ret
  exact HIN.out

end Go.Proofs.Ytelgbigpfiohfaa
