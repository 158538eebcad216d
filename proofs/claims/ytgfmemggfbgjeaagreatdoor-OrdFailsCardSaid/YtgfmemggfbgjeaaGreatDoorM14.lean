/-
  Plain: the lists of nodes' nodes; down's answer in their words. Conditions: few elements.
-/
import Derived.Test.YtgfmemggfbgjeaaGreatDoorM13
namespace Go.Proofs.YtgfmemggfbgjeaaGreatDoor
open Go.RowKit Go.Extern.Stop Go.Stop Go.Extern Go.Lib
set_option maxRecDepth 1000000

theorem kids_split {ks : List Kid} {j : Nat} {c : Kid} (h : ks[j]? = some c) : kidsL ks = kidsL (ks.take j) ++ (c.L ++ kidsL (ks.drop (j + 1))) := by
  have hj : j < ks.length := (List.getElem?_eq_some_iff.1 h).1
  have hc := (List.getElem?_eq_some_iff.1 h).2
  conv => lhs; rw [← List.take_append_drop j ks, kidsL_append, List.drop_eq_getElem_cons hj, hc, kidsL_cons]

theorem insert_split (A B C : List En) (p : Nat) (v : En) (hp : p ≤ B.length) :
    (A ++ (B ++ C)).take (A.length + p) ++ v :: (A ++ (B ++ C)).drop (A.length + p) = A ++ ((B.take p ++ v :: B.drop p) ++ C) := by
  rw [List.take_length_add_append, List.drop_length_add_append, List.take_append_of_le_length hp, List.drop_append_of_le_length hp]
  simp

theorem sum_kids (ks : List Kid) (j : Nat) : ((ks.map fun k => (k.L.length : Int)).take j).sum = ((kidsL (ks.take j)).length : Int) := by
  rw [← List.map_take]
  exact kids_len _

theorem down_kids {w : World} {P : Nat → Prop} {h b i : Nat} {kv : Value} {n : Int} {ks : List Kid} (hb : w.heap[b]? = some (nodeObj (.slice none 0 0) kv n)) (hr : ReadC w 109 kv (kidsV ks)) (hk : ∀ c ∈ ks, NodeAt w P h c.b c.s c.L) (h0 : 0 < ks.length) (hks : ks.length ≤ 8) (hL : (kidsL ks).length ≤ 100000) (hi : i ≤ 100000) :
    Calls Tryz.prog 56 #[.pointer (some ⟨b, 0, none⟩), .int .i64 i] w fun e w' => w = w' ∧ ∃ (j p : Nat) (c : Kid), e = .returned (.tuple #[.int .i64 j, .int .i64 p]) ∧ ks[j]? = some c ∧ j < ks.length ∧ i = (kidsL (ks.take j)).length + p ∧ (i ≤ (kidsL ks).length → p ≤ c.L.length) ∧ (i < (kidsL ks).length → p < c.L.length) := by
  have hr' : ReadC w 109 kv (ptrsV (ks.map fun k => k.b)) := by
    have e : ptrsV (ks.map fun k => k.b) = kidsV ks := by simp [ptrsV, kidsV]
    rw [e]; exact hr
  refine (down_any (ns := ks.map fun k => (k.L.length : Int)) hb hr' (by simp) ?_ (by simpa using h0) (by simp; omega) (by omega) (by omega)).mono ?_
  · intro j c m hc hm
    rw [List.getElem?_map] at hc hm
    cases hj : ks[j]? with
    | none => rw [hj] at hc; cases hc
    | some k =>
      rw [hj] at hc hm
      cases hc; cases hm
      have hkm := List.mem_of_getElem? hj
      change (0 : Int) ≤ (k.L.length : Int) ∧ (k.L.length : Int) ≤ 1000000 ∧ ∃ l q, w.heap[k.b]? = some (nodeObj l q (k.L.length : Int))
      refine ⟨by omega, by have := kid_le hkm; omega, (hk k hkm).count⟩
  · rintro e w' ⟨rfl, j, p, rfl, hj, hp0, hsum, hlast⟩
    rw [List.length_map] at hj hlast
    have hkj : ks[j]? = some ks[j] := List.getElem?_eq_getElem hj
    rw [sum_kids] at hsum
    obtain ⟨pn, rfl⟩ : ∃ pn : Nat, p = pn := ⟨p.toNat, by omega⟩
    have hsp := kids_split hkj
    have hlen : (kidsL ks).length = (kidsL (ks.take j)).length + (ks[j].L.length + (kidsL (ks.drop (j + 1))).length) := by rw [hsp, List.length_append, List.length_append]
    refine ⟨rfl, j, pn, ks[j], rfl, hkj, hj, by omega, fun hle => ?_, fun hlt => ?_⟩
    all_goals
      rcases hlast with hl | ⟨m, hm, hpm⟩
      · rw [List.drop_of_length_le (by omega), kidsL_nil, List.length_nil] at hlen
        omega
      · rw [List.getElem?_map, hkj] at hm
        cases hm
        change (pn : Int) < (ks[j].L.length : Int) at hpm
        omega

/-- What inserted is to do at nodes of height h. -/
def InsAll (h : Nat) : Prop := ∀ {w : World} {P : Nat → Prop} {t b s i : Nat} {r : Value} {c : Int} {v : En} {L : List En}, w.heap[t]? = some (headObj r c) → 0 ≤ c ∧ c + 2 * (h + 1) ≤ 800000000 → NodeAt w P h b s L → 0 < s → i ≤ L.length → L.length ≤ 100000 → (∀ k, w.heap.size ≤ k → P k) →
    Calls Tryz.prog 58 #[.pointer (some ⟨t, 0, none⟩), .pointer (some ⟨b, 0, none⟩), .int .i64 i, v.agg] w fun e w' => Ins w w' P h t r c s (L.take i ++ v :: L.drop i) e

theorem kidsV_replace (ks new : List Kid) (j : Nat) : (kidsV ks).take j ++ kidsV new ++ (kidsV ks).drop (j + 1) = kidsV (ks.take j ++ new ++ ks.drop (j + 1)) := by
  simp [kidsV, List.map_append, List.map_take, List.map_drop]

theorem kidsL_replace (ks new : List Kid) (j : Nat) : kidsL (ks.take j ++ new ++ ks.drop (j + 1)) = kidsL (ks.take j) ++ (kidsL new ++ kidsL (ks.drop (j + 1))) := by
  rw [kidsL_append, kidsL_append, List.append_assoc]

end Go.Proofs.YtgfmemggfbgjeaaGreatDoor
