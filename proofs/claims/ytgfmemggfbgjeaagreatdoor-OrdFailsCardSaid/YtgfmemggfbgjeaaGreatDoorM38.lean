/-
  ordidx: Insert into an index that isn't unique. Conditions: few entries; the comparator doesn't fail. ordidx: New, an Erase of what isn't there; the law's num. Conditions: few entries; the comparator doesn't fail. Plain: numbers in the orders of the comparators; sorted lists of entries. Conditions: none.
-/
import Derived.Test.YtgfmemggfbgjeaaGreatDoorM37
namespace Go.Proofs.YtgfmemggfbgjeaaGreatDoor
open Go.RowKit Go.Extern.Stop Go.Stop Go.Extern Go.Lib
set_option maxRecDepth 1000000

theorem OxAt.head {w : World} {P : Nat → Prop} {x t bm bn : Nat} {uq : Bool} {mp : Value} {n a c : Int} {L : List En} (hO : OxAt w P x t bm bn uq mp n a L c) : ∃ r, w.heap[t]? = some (headObj r c) := hO.tree.head

theorem head_ne {w : World} {t b : Nat} {r : Value} {c : Int} (ht : w.heap[t]? = some (headObj r c)) {v : Value} {T : TypeId} (hb : One w b v T) : b ≠ t := fun e => by
  subst e
  have := hb.symm.trans ht
  simp at this

theorem low_most {n h d : Nat} (hl : Low n h) (hd : d ≤ 3 * h + 3) : d ≤ 3 * (Nat.log2 (n + 1) / 2) + 3 := by
  have : h ≤ Nat.log2 (n + 1) / 2 := by
    rcases hl with h0 | h0
    · omega
    · have h1 : 2 ^ (2 * h) ≤ n + 1 := by
        rw [Nat.pow_mul]
        have : (2 ^ 2 : Nat) = 4 := by decide
        rw [this]
        omega
      have h2 : 2 * h ≤ Nat.log2 (n + 1) := (Nat.le_log2 (by omega)).2 h1
      omega
  omega

/-- What InsertAt does to an index. -/
theorem OxAt.got {w w' : World} {P : Nat → Prop} {x t bm bn i : Nat} {uq : Bool} {mp : Value} {n a c cc h s : Int} {L : List En} {e : En} (hO : OxAt w P x t bm bn uq mp n a L c) (hm : MAt w mp cc a h s) (hg : TreeGot w w' P t L (L.take i ++ e :: L.drop i) c) (he : KeyOk w mp e.key e.kv) (het : e.key.ownBlock ≠ some t) : ∃ d : Nat, d ≤ 3 * (Nat.log2 (L.length + 1) / 2) + 3 ∧ OxAt w' P x t bm bn uq mp n a (L.take i ++ e :: L.drop i) (c + d) ∧ MAt w' mp cc a h s ∧ Same (fun k => k = t) w w' := by
  obtain ⟨⟨d, hh, hl, hd, ht⟩, hs⟩ := hg
  obtain ⟨r, hr⟩ := hO.head
  have hxt : x ≠ t := fun e => by subst e; have := hO.idx.symm.trans hr; simp at this
  have hmt : ∀ k, Blk mp k → ¬ k = t := fun k hk e => by subst e; exact hO.pm k hk hO.tree.1
  have hmem : ∀ y ∈ L.take i ++ e :: L.drop i, y ∈ L ∨ y = e := fun y hy => by
    rcases List.mem_append.1 hy with h | h
    · exact Or.inl (List.mem_of_mem_take h)
    · rcases List.mem_cons.1 h with h | h
      · exact Or.inr h
      · exact Or.inl (List.mem_of_mem_drop h)
  refine ⟨d, low_most hl hd, ⟨hs.obj hO.idx hxt, ht, hs.one hO.bm (head_ne hr hO.bm), hs.one hO.bn (head_ne hr hO.bn), fun y hy => ?_, hO.sm, hO.calm, hO.pm, fun y hy => ?_⟩, hm.same hs hmt, hs⟩
  · rcases hmem y hy with h | rfl
    · exact (hO.keys y h).kept hs (fun k hk e => hO.kt y h (by rw [hk, e]))
    · exact he.kept hs (fun k hk e => het (by rw [hk, e]))
  · rcases hmem y hy with h | rfl
    · exact hO.kt y h
    · exact het

/-- What Insert answers, where the index isn't unique. -/
def InsPlain (w : World) (P : Nat → Prop) (x t bm bn : Nat) (mp : Value) (n a h s : Int) (L : List En) (c : Int) (K : List V) (rid : Int) (r : Ending) (w' : World) : Prop :=
  ∃ c', MAt w' mp c' a h s ∧ Same (fun k => Blk mp k ∨ k = t) w w' ∧
    ((∃ y ∈ L, y.id = rid ∧ cmpR n y.kv K = 0 ∧ r = .returned (.tuple #[.int .i64 0, .iface 65 (.int .i64 72)]) ∧ OxAt w' P x t bm bn false mp n a L c) ∨
     (∃ (i : Nat) (e : En) (d : Nat), i ≤ L.length ∧ (∀ y ∈ L.take i, rankC n K rid y < 0) ∧ (∀ y ∈ L.drop i, 0 ≤ rankC n K rid y) ∧ e.kv = K ∧ e.id = rid ∧ d ≤ 3 * (Nat.log2 (L.length + 1) / 2) + 3 ∧ r = .returned (.tuple #[.int .i64 i, .nilIface]) ∧ OxAt w' P x t bm bn false mp n a (L.take i ++ e :: L.drop i) (c + d)))

set_option maxHeartbeats 8000000 in
theorem insert_plain {w : World} {P : Nat → Prop} {x t bm bn : Nat} {v mp : Value} {K : List V} {L : List En} {n a c cc h s rid : Int} (hO : OxAt w P x t bm bn false mp n a L c) (hm : MAt w mp cc a h s) (hK : KeyOk w mp v K) (hP : ∀ k, w.heap.size ≤ k → P k) (hL : L.length ≤ 80000) (hc : 0 ≤ c ∧ c ≤ 600000000)
    (h1 : L.Pairwise (fun x y => 0 ≤ rankC n K rid x → 0 ≤ rankC n K rid y)) :
    Calls Tryz.prog 12 #[.pointer (some ⟨x, 0, none⟩), v, .int .i64 rid] w fun r w' => InsPlain w P x t bm bn mp n a h s L c K rid r w' := by
  have HR := Lib.hid (rank_calm hO hm hK (by omega) h1)
  have HK1 := Lib.hid (fun (W : World) (hs : Same (Blk mp) w W) => And.intro (hO.kept hm hs) (hK.kept hs hK.mt))
  obtain ⟨vo, vc, rfl⟩ := readV_len hK.rd
  have HP := Lib.hid hP
  clear hO hm hK h1 hP
  go_enter Tryz.func12, Tryz.ntmps12
  go_wp2_with fail
  refine HR.out.mono ?_
  rintro r w1 ⟨i, b, c1, rfl, hi, f1, f2, hb, hs1, hm1⟩
  obtain ⟨hO1, hK1⟩ := HK1.out w1 hs1
  have HF1 := Lib.hid f1; have HF2 := Lib.hid f2; have HB := Lib.hid hb; have HS1 := Lib.hid hs1; have HM1 := Lib.hid hm1; have HO1 := Lib.hid hO1; have HKK := Lib.hid hK1
  obtain ⟨i0, i1, i2, il⟩ := idx_cells hO1.idx
  clear f1 f2 hb hs1 hm1 hO1 hK1
  cases b with
  | true =>
    go_wp2_with fail
    go_ret2
    obtain ⟨y, hy, hy1, hy2⟩ := HB.out.1 (by trivial)
    exact ⟨c1, HM1.out, HS1.out.weaken (fun _ _ h => Or.inl h), Or.inl ⟨y, List.mem_of_getElem? hy, hy1, hy2, rfl, HO1.out⟩⟩
  | false =>
    have hd1 : Same (fun _ => False) w1 w1.drew := (Same.refl (fun _ => False) w1).drew
    have HCP := Lib.hid (clone_any (HKK.out.rd.kept hd1 (fun _ _ => id)) HKK.out.few)
    have HINS := Lib.hid (fun (W : World) (uo : Option Addr) (uc : Nat) (hs : Same (fun _ => False) w1 W) => tree_insert (v := (⟨uo, K.length, uc, rid, K⟩ : En)) (i := i) (HO1.out.tree.keep hs (fun _ h => h.elim)) (fun k hk => HP.out k (by have e1 := HS1.out.size; have e2 := hs.size; omega)) ⟨hc.1, by omega⟩ (by omega) hi)
    have HD1 := Lib.hid hd1
    clear hd1
    go_wp2_with fail
    go_region_with (first
      | (go_at_call 36; refine HCP.out.mono ?_; rintro r w2 ⟨u, rfl, ho, hs2⟩; obtain ⟨uo, uc, rfl⟩ := readV_len (ReadV.own ho); have HOW := Lib.hid ho; have HS2 := Lib.hid (HD1.out.trans hs2 (fun _ _ h => h)); obtain ⟨q0, _, _, ql⟩ := idx_cells (HS2.out.obj HO1.out.idx id); clear ho hs2)
      | (go_at_call 35; refine (HINS.out w2 uo uc HS2.out).mono ?_; rintro r w3 ⟨rfl, hg⟩; have HG := Lib.hid hg; clear hg))
    all_goals go_wp2_with fail
    all_goals (
      go_ret2
      obtain ⟨rr, hrr⟩ := HO1.out.head
      have htl := lt_of_block hrr
      have hm2 : MAt w2 mp c1 a h s := HM1.out.same HS2.out (fun _ _ => id)
      have hO2 : OxAt w2 P x t bm bn false mp n a L c := HO1.out.kept HM1.out (HS2.out.weaken (fun _ _ h => h.elim))
      have hown : ∀ k, (Value.slice uo K.length uc).ownBlock = some k → w1.heap.size ≤ k := fun k hk => (HOW.out.lt k hk).1
      have hke : KeyOk w2 mp (Value.slice uo K.length uc) K := ⟨ReadV.own HOW.out, CapOk.own HOW.out, HKK.out.ok, HKK.out.small, HKK.out.few, fun k hk hb => by have e1 := hown k hk; have e2 := HM1.out.lt hb; omega⟩
      obtain ⟨d, hd, hO3, hm3, hs3⟩ := hO2.got (e := (⟨uo, K.length, uc, rid, K⟩ : En)) (i := i) hm2 HG.out hke (fun hk => by have := hown t hk; omega)
      exact ⟨c1, hm3, ((HS1.out.weaken (fun _ _ h => Or.inl h)).trans HS2.out (fun _ _ h => h.elim)).trans hs3 (fun _ _ h => Or.inr h), Or.inr ⟨i, ⟨uo, K.length, uc, rid, K⟩, d, hi, HF1.out, HF2.out, rfl, rfl, hd, rfl, hO3⟩⟩)

end Go.Proofs.YtgfmemggfbgjeaaGreatDoor

namespace Go.Proofs.YtgfmemggfbgjeaaGreatDoor
open Go.RowKit Go.Extern.Stop Go.Stop Go.Extern Go.Lib
set_option maxRecDepth 1000000

/-- A number, as a value. -/
abbrev numV (m : Int) : V := ⟨1, m, ⟨#[]⟩, 0⟩

theorem num_any {w : World} {m : Int} (h0 : -9223372036854775808 ≤ m) (h1 : m ≤ 9223372036854775807) :
    Calls Tryz.prog 11 #[.int .i64 m] w fun e w' => ∃ v, e = .returned v ∧ w'.ownsRow w.heap.size 39 4 v 1 (vals [numV m]) ∧ (∀ mp c a h s, MAt w mp c a h s → KeyOk w' mp v [numV m]) ∧ Same (fun _ => False) w w' := by
  go_enter Tryz.func11, Tryz.ntmps11
  go_wp2_with fail
  go_ret
  have hb := heap_alloc_new w (numV m).obj
  have ho : (w.alloc (numV m).obj).ownsRow w.heap.size 39 4 (.slice (some ⟨w.heap.size, 0, none⟩) 1 1) [numV m].length (vals [numV m]) := ⟨by simp [vals, V.cells], Or.inr ⟨w.heap.size, 1, _, rfl, Nat.le_refl _, hb, Nat.le_refl _, by unfold maxLen; omega, by simp, by simp [vals, V.cells]⟩⟩
  refine ⟨_, rfl, ho, fun mp c a h s hm => ⟨ReadV.own ho, CapOk.own ho, fun z hz => ?_, fun z hz => ?_, by simp, fun k hk hb => ?_⟩, (Same.refl _ w).alloc _⟩
  · simp only [List.mem_singleton] at hz
    subst hz
    exact ⟨by show (-9223372036854775808 : Int) ≤ 1; omega, by show (1 : Int) ≤ 9223372036854775807; omega, h0, h1, Nat.zero_le _, by show 0 < 18446744073709551616; omega⟩
  · simp only [List.mem_singleton] at hz
    subst hz
    exact Nat.zero_le _
  · have e1 := hm.lt hb
    have : w.heap.size = k := by simpa [Value.ownBlock] using hk
    omega

theorem new_calm {w : World} {bm bn : Nat} {uq : Bool} {mp : Value} {n a cc h s : Int} (hbm : One w bm mp 49) (hbn : One w bn (.int .i64 n) 3) (hm : MAt w mp cc a h s) (hsm : MSmall a) (hc : Calm mp a) :
    Calls Tryz.prog 9 #[.bool uq, coF bm bn] w fun e w' => ∃ x t, e = .returned (.pointer (some ⟨x, 0, none⟩)) ∧ OxAt w' (fun k => w.heap.size ≤ k) x t bm bn uq mp n a [] 0 ∧ MAt w' mp cc a h s ∧ Same (fun _ => False) w w' := by
  have HT := Lib.hid (tree_new w)
  have HM := Lib.hid hm; have HBM := Lib.hid hbm; have HBN := Lib.hid hbn
  clear hm hbm hbn
  go_enter Tryz.func9, Tryz.ntmps9
  go_wp2_with fail
  refine HT.out.mono ?_
  rintro e w1 ⟨t, rfl, htl, ht, hs1⟩
  have HT1 := Lib.hid ht; have HS1 := Lib.hid hs1
  clear ht hs1
  go_wp2_with fail
  go_ret
  have hs2 : Same (fun _ => False) w1 (w1.alloc (idxObj t uq bm bn)) := (Same.refl _ w1).alloc _
  have hs := HS1.out.trans hs2 (fun _ _ h => h)
  exact ⟨w1.heap.size, t, rfl, ⟨heap_alloc_new _ _, HT1.out.keep hs2 (fun _ h => h.elim), hs.one HBM.out id, hs.one HBN.out id, fun e he => (by cases he), hsm, hc, fun k hk hb => (by have := HM.out.lt hk; omega), fun e he => (by cases he)⟩, HM.out.same hs (fun _ _ => id), hs⟩

/-- What an Erase of what isn't there answers. -/
theorem erase_gone {w : World} {P : Nat → Prop} {x t bm bn : Nat} {uq : Bool} {v mp : Value} {K : List V} {L : List En} {n a c cc h s rid : Int} (hO : OxAt w P x t bm bn uq mp n a L c) (hm : MAt w mp cc a h s) (hK : KeyOk w mp v K) (hL : L.length ≤ 80000)
    (h1 : L.Pairwise (fun x y => 0 ≤ rankC n K rid x → 0 ≤ rankC n K rid y)) (hno : ∀ y ∈ L, ¬ (y.id = rid ∧ cmpR n y.kv K = 0)) :
    Calls Tryz.prog 29 #[.pointer (some ⟨x, 0, none⟩), v, .int .i64 rid] w fun r w' => r = .returned (.tuple #[.int .i64 0, .iface 65 (.int .i64 71)]) ∧ Same (Blk mp) w w' ∧ ∃ c', MAt w' mp c' a h s := by
  have HR := Lib.hid (rank_calm hO hm hK (by omega) h1)
  obtain ⟨vo, vc, rfl⟩ := readV_len hK.rd
  clear hO hm hK h1
  go_enter Tryz.func29, Tryz.ntmps29
  go_wp2_with fail
  refine HR.out.mono ?_
  rintro r w1 ⟨i, b, c1, rfl, hi, f1, f2, hb, hs1, hm1⟩
  have hbf : b = false := by
    cases b with
    | false => rfl
    | true =>
      obtain ⟨y, hy, h2⟩ := hb.1 rfl
      exact absurd h2 (hno y (List.mem_of_getElem? hy))
  subst hbf
  have HS1 := Lib.hid hs1; have HM1 := Lib.hid hm1
  clear f1 f2 hb hs1 hm1
  go_wp2_with fail
  go_ret2
  exact ⟨rfl, HS1.out, c1, HM1.out⟩

end Go.Proofs.YtgfmemggfbgjeaaGreatDoor

namespace Go.Proofs.YtgfmemggfbgjeaaGreatDoor
open Go.RowKit

/-- A number's entry. -/
def IsNum (e : En) : Prop := ∃ m, e.kv = [numV m]
def numOf (e : En) : Int := match e.kv with
  | v :: _ => v.i
  | [] => 0

theorem numOf_eq {e : En} {m : Int} (h : e.kv = [numV m]) : numOf e = m := by simp [numOf, h]

theorem rowsV_num (a b : Int) : rowsV [numV a] [numV b] = cmpI a b := by
  unfold rowsV cmpV cmpI
  by_cases h1 : a = b
  · subst h1
    simp [rowsV, cmpF]
  · by_cases h2 : a < b
    · simp [h1, h2, sgn]
    · have h3 : b < a := by omega
      simp [h1, h2, h3, sgn]

theorem sizeV_num (a : Int) : sizeV [numV a] = 0 := rfl

/-- Comparator 2: as the numbers stand. -/
theorem cmpR_two (a b : Int) : cmpR 2 [numV a] [numV b] = cmpI a b := by
  unfold cmpR
  rw [if_neg (by decide), if_neg (by decide), if_pos rfl, sizeV_num, sizeV_num, if_neg (by simp), rowsV_num]

/-- Comparator 0: the other way round. -/
theorem cmpR_zero (a b : Int) : cmpR 0 [numV a] [numV b] = - cmpI a b := by
  unfold cmpR
  rw [if_pos rfl, rowsV_num]

end Go.Proofs.YtgfmemggfbgjeaaGreatDoor
