/-
  Plain: orders of values, of rows, by the comparators; sorted entries. Conditions: none. ordidx: Insert, where the comparator may fail. Conditions: few entries; rows of few values; the variable that errors.As reads holds the type of error. ordidx: an index whose comparator may fail, and a row of entries that was told before: Insert, EraseAt, All, Len; the meter set. Conditions: few entries; the variable that errors.As reads holds the type of error.
-/
import Derived.Test.YtgfmemggfbgjeaaGreatDoorM38
import Derived.Lib.Bytealg
import Derived.Test.YtgfmemggfbgjeaaGreatDoorM56
import Derived.Test.YtgfmemggfbgjeaaGreatDoorM48
import Derived.Test.YtgfmemggfbgjeaaGreatDoorM53
import Derived.BigQuiet
import Derived.Deep.RegionHeld3
import Derived.Deep.CutRange
namespace Go.Proofs.YtgfmemggfbgjeaaGreatDoor
open Go.RowKit Go.Lib

/-- The first that is not nought. -/
def orI : List Int → Int
  | [] => 0
  | x :: l => if x ≠ 0 then x else orI l

theorem cmpI_sgn (m n : Int) : cmpI m n = if m = n then 0 else sgn (decide (m < n)) := by
  unfold cmpI sgn
  split
  · rw [if_neg (by omega), decide_eq_true (by omega)]; rfl
  · split
    · rw [if_neg (by omega), decide_eq_false (by omega)]; rfl
    · rw [if_pos (by omega)]

theorem cb_eq : ∀ a b : List UInt8, Lib.compareBytes a b = if a = b then 0 else sgn (Op.bytesLess a b)
  | [], [] => rfl
  | [], _ :: _ => rfl
  | _ :: _, [] => rfl
  | x :: a, y :: b => by
    unfold Lib.compareBytes Op.bytesLess
    by_cases h1 : x < y
    · have hne : x ≠ y := fun e => by subst e; exact absurd h1 (UInt8.lt_irrefl x)
      rw [if_pos h1, if_neg (by simp [hne]), decide_eq_true h1]
      rfl
    · by_cases h2 : y < x
      · have hne : x ≠ y := fun e => by subst e; exact absurd h2 (UInt8.lt_irrefl x)
        rw [if_neg h1, if_pos h2, if_neg (by simp [hne]), decide_eq_false h1]
        simp [hne, sgn]
      · have he : x = y := by
          rw [UInt8.lt_iff_toNat_lt] at h1 h2
          exact UInt8.toNat_inj.1 (by omega)
        subst he
        rw [if_neg h1, if_neg h1, cb_eq a b, decide_eq_false h1]
        simp

theorem cmpV_or (x y : V) : orI [cmpI x.k y.k, cmpI x.i y.i, Lib.compareBytes x.s.data.toList y.s.data.toList, cmpI (ord x.f) (ord y.f)] = cmpV x y := by
  unfold cmpV
  by_cases h1 : x.k = y.k
  · rw [if_neg (by simp [h1])]
    have e1 : cmpI x.k y.k = 0 := by rw [cmpI_sgn, if_pos h1]
    by_cases h2 : x.i = y.i
    · rw [if_neg (by simp [h2])]
      have e2 : cmpI x.i y.i = 0 := by rw [cmpI_sgn, if_pos h2]
      by_cases h3 : x.s = y.s
      · rw [if_neg (by simp [h3])]
        have e3 : Lib.compareBytes x.s.data.toList y.s.data.toList = 0 := by rw [cb_eq, if_pos (by rw [h3])]
        have e4 : cmpI (ord x.f) (ord y.f) = cmpF x.f y.f := by
          unfold cmpI cmpF
          split
          · rw [if_pos (by omega)]
          · split
            · rw [if_neg (by omega), if_pos (by omega)]
            · rw [if_neg (by omega), if_neg (by omega)]
        simp only [orI, e1, e2, e3, e4]
        by_cases h4 : cmpF x.f y.f = 0
        · simp [h4]
        · simp [h4]
      · rw [if_pos h3]
        have hne : x.s.data.toList ≠ y.s.data.toList := fun e => h3 (ByteArray.ext (by simpa using congrArg List.toArray e))
        have e3 : Lib.compareBytes x.s.data.toList y.s.data.toList = sgn (Op.bytesLess x.s.toList y.s.toList) := by
          rw [cb_eq, if_neg hne, Go.ByteArray.toList_eq, Go.ByteArray.toList_eq]
        simp only [orI, e1, e2, e3]
        simp [sgn_ne]
    · rw [if_pos h2]
      have e2 : cmpI x.i y.i = sgn (decide (x.i < y.i)) := by rw [cmpI_sgn, if_neg h2]
      simp only [orI, e1, e2]
      simp [sgn_ne]
  · rw [if_pos h1]
    have e1 : cmpI x.k y.k = sgn (decide (x.k < y.k)) := by rw [cmpI_sgn, if_neg h1]
    simp only [orI, e1]
    simp [sgn_ne]

/-- A comparison that is an order. -/
structure Ord3 {α : Type} (c : α → α → Int) : Prop where
  anti : ∀ x y, c x y = - c y x
  trans : ∀ x y z, c x y ≤ 0 → c y z ≤ 0 → c x z ≤ 0

theorem Ord3.zero {α : Type} {c : α → α → Int} (h : Ord3 c) {x y z : α} (h1 : c x y ≤ 0) (h2 : c y z ≤ 0) (h3 : c x z = 0) : c x y = 0 ∧ c y z = 0 := by
  have a1 := h.anti x z
  have h4 : c z y ≤ 0 := h.trans z x y (by omega) h1
  have a2 := h.anti y z
  have h5 : c y x ≤ 0 := h.trans y z x h2 (by omega)
  have a3 := h.anti x y
  omega

theorem Ord3.refl {α : Type} {c : α → α → Int} (h : Ord3 c) (x : α) : c x x = 0 := by
  have := h.anti x x
  omega

theorem Ord3.lex {α : Type} {c d : α → α → Int} (hc : Ord3 c) (hd : Ord3 d) : Ord3 (fun x y => if c x y ≠ 0 then c x y else d x y) := by
  refine ⟨fun x y => ?_, fun x y z h1 h2 => ?_⟩
  · have a1 := hc.anti x y
    have a2 := hd.anti x y
    by_cases h : c x y = 0
    · have h' : c y x = 0 := by omega
      simp only [h, h', ne_eq, not_true_eq_false, if_false]
      exact a2
    · have h' : c y x ≠ 0 := by omega
      simp only [h, h', ne_eq, not_false_eq_true, if_true]
      exact a1
  · have e1 : c x y ≤ 0 := by
      by_cases h : c x y = 0
      · omega
      · rw [if_pos h] at h1; exact h1
    have e2 : c y z ≤ 0 := by
      by_cases h : c y z = 0
      · omega
      · rw [if_pos h] at h2; exact h2
    by_cases h : c x z = 0
    · obtain ⟨z1, z2⟩ := hc.zero e1 e2 h
      rw [if_neg (by simp [z1])] at h1
      rw [if_neg (by simp [z2])] at h2
      rw [if_neg (by simp [h])]
      exact hd.trans x y z h1 h2
    · rw [if_pos h]
      exact hc.trans x y z e1 e2

theorem Ord3.on {α β : Type} {c : β → β → Int} (h : Ord3 c) (f : α → β) : Ord3 (fun x y => c (f x) (f y)) :=
  ⟨fun _ _ => h.anti _ _, fun _ _ _ => h.trans _ _ _⟩

theorem cmpI_ord : Ord3 cmpI := by
  refine ⟨fun x y => ?_, fun x y z h1 h2 => ?_⟩
  · unfold cmpI
    split <;> split <;> (try split) <;> omega
  · unfold cmpI at *
    split at h1 <;> split at h2 <;> (try split at h1) <;> (try split at h2) <;> split <;> (try split) <;> omega

/-- Rows held against one another, one after the other. -/
def lexC {α : Type} (c : α → α → Int) : List α → List α → Int
  | [], [] => 0
  | [], _ :: _ => -1
  | _ :: _, [] => 1
  | x :: a, y :: b => if c x y ≠ 0 then c x y else lexC c a b

theorem lexC_anti {α : Type} {c : α → α → Int} (h : Ord3 c) : ∀ a b, lexC c a b = - lexC c b a
  | [], [] => rfl
  | [], _ :: _ => rfl
  | _ :: _, [] => rfl
  | x :: a, y :: b => by
    have ih := lexC_anti h a b
    have a1 := h.anti x y
    unfold lexC
    by_cases hz : c x y = 0
    · rw [if_neg (by simp [hz]), if_neg (by simp; omega)]
      exact ih
    · rw [if_pos hz, if_pos (by omega)]
      exact a1

theorem lexC_trans {α : Type} {c : α → α → Int} (h : Ord3 c) : ∀ x y z, lexC c x y ≤ 0 → lexC c y z ≤ 0 → lexC c x z ≤ 0
  | [], _, [], _, _ => by simp [lexC]
  | [], _, _ :: _, _, _ => by simp [lexC]
  | _ :: _, [], _, h1, _ => by simp [lexC] at h1
  | _ :: _, _ :: _, [], _, h2 => by simp [lexC] at h2
  | x :: a, y :: b, z :: d, h1, h2 => by
    have ih := lexC_trans h a b d
    unfold lexC at h1 h2 ⊢
    have e1 : c x y ≤ 0 := by
      by_cases h : c x y = 0
      · omega
      · rw [if_pos h] at h1; exact h1
    have e2 : c y z ≤ 0 := by
      by_cases h : c y z = 0
      · omega
      · rw [if_pos h] at h2; exact h2
    by_cases hz : c x z = 0
    · obtain ⟨z1, z2⟩ := h.zero e1 e2 hz
      rw [if_neg (by simp [z1])] at h1
      rw [if_neg (by simp [z2])] at h2
      rw [if_neg (by simp [hz])]
      exact ih h1 h2
    · rw [if_pos hz]
      exact h.trans x y z e1 e2

theorem lexC_ord {α : Type} {c : α → α → Int} (h : Ord3 c) : Ord3 (lexC c) := ⟨lexC_anti h, lexC_trans h⟩

theorem compareBytes_lex : ∀ a b, Lib.compareBytes a b = lexC (fun x y : UInt8 => cmpI x.toNat y.toNat) a b
  | [], [] => rfl
  | [], _ :: _ => rfl
  | _ :: _, [] => rfl
  | x :: a, y :: b => by
    have ih := compareBytes_lex a b
    unfold Lib.compareBytes lexC
    rw [ih]
    simp only [UInt8.lt_iff_toNat_lt]
    unfold cmpI
    by_cases h1 : x.toNat < y.toNat
    · have h1' : (x.toNat : Int) < y.toNat := by omega
      simp [h1, h1']
    · have h1' : ¬ (x.toNat : Int) < y.toNat := by omega
      by_cases h2 : y.toNat < x.toNat
      · have h2' : (y.toNat : Int) < x.toNat := by omega
        simp [h1, h1', h2, h2']
      · have h2' : ¬ (y.toNat : Int) < x.toNat := by omega
        simp [h1, h1', h2, h2']

theorem compareBytes_ord : Ord3 Lib.compareBytes := by
  have h := lexC_ord (cmpI_ord.on (fun x : UInt8 => (x.toNat : Int)))
  rw [show Lib.compareBytes = lexC (fun x y : UInt8 => cmpI x.toNat y.toNat) from funext fun a => funext fun b => compareBytes_lex a b]
  exact h

theorem cmpV_ord : Ord3 cmpV := by
  have h := (cmpI_ord.on V.k).lex ((cmpI_ord.on V.i).lex ((compareBytes_ord.on (fun x : V => x.s.data.toList)).lex (cmpI_ord.on (fun x : V => (ord x.f : Int)))))
  rw [show cmpV = _ from funext fun x => funext fun y => (cmpV_or x y).symm]
  have e : (fun x y : V => orI [cmpI x.k y.k, cmpI x.i y.i, Lib.compareBytes x.s.data.toList y.s.data.toList, cmpI (ord x.f) (ord y.f)]) =
      (fun x y => if cmpI x.k y.k ≠ 0 then cmpI x.k y.k else if cmpI x.i y.i ≠ 0 then cmpI x.i y.i else if Lib.compareBytes x.s.data.toList y.s.data.toList ≠ 0 then Lib.compareBytes x.s.data.toList y.s.data.toList else cmpI (ord x.f) (ord y.f)) := by
    funext x y
    simp only [orI]
    by_cases h4 : cmpI (ord x.f : Int) (ord y.f : Int) = 0
    · simp [h4]
    · simp [h4]
  rw [e]
  exact h

theorem rowsV_lex : ∀ A B, rowsV A B = lexC cmpV A B
  | [], [] => rfl
  | [], _ :: _ => rfl
  | _ :: _, [] => rfl
  | x :: A, y :: B => by unfold rowsV lexC; rw [rowsV_lex A B]

theorem rowsV_ord : Ord3 rowsV := by
  rw [show rowsV = lexC cmpV from funext fun a => funext fun b => rowsV_lex a b]
  exact lexC_ord cmpV_ord

theorem rowsV_zero : ∀ {A B}, rowsV A B = 0 → A.length = B.length
  | [], [], _ => rfl
  | [], _ :: _, h => by simp [rowsV] at h
  | _ :: _, [], h => by simp [rowsV] at h
  | x :: A, y :: B, h => by
    unfold rowsV at h
    by_cases hz : cmpV x y = 0
    · rw [if_neg (by simp [hz])] at h
      simp [rowsV_zero h]
    · rw [if_pos hz] at h
      exact absurd h hz

/-- The comparators are orders. -/
theorem cmpR_ord (n : Int) : Ord3 (cmpR n) := by
  have hr := rowsV_ord
  by_cases h0 : n = 0
  · refine ⟨fun x y => ?_, fun x y z h1 h2 => ?_⟩
    · unfold cmpR
      rw [if_pos h0, if_pos h0]
      have := hr.anti x y
      omega
    · unfold cmpR at *
      rw [if_pos h0] at *
      have a1 := hr.anti x y; have a2 := hr.anti y z; have a3 := hr.anti x z
      have := hr.trans z y x (by omega) (by omega)
      omega
  · by_cases h1 : n = 1
    · have h := hr.on (fun A : List V => A.take 1)
      rw [show cmpR n = fun x y => rowsV (x.take 1) (y.take 1) from funext fun x => funext fun y => by unfold cmpR; rw [if_neg h0, if_pos h1]]
      exact h
    · by_cases h2 : n = 2
      · have h := (cmpI_ord.on (fun A : List V => (sizeV A : Int))).lex hr
        rw [show cmpR n = fun x y => if cmpI (sizeV x) (sizeV y) ≠ 0 then cmpI (sizeV x) (sizeV y) else rowsV x y from funext fun x => funext fun y => by
          unfold cmpR
          rw [if_neg h0, if_neg h1, if_pos h2]
          by_cases e : sizeV x = sizeV y
          · rw [if_neg (by simp [e]), if_neg (by simp [e, cmpI])]
          · rw [if_pos e]
            have e' : ¬ (sizeV x : Int) = sizeV y := by omega
            by_cases l : sizeV x < sizeV y
            · have l' : (sizeV x : Int) < sizeV y := by omega
              rw [if_pos l, if_pos (by simp [cmpI, l'])]
              simp [cmpI, l']
            · have l' : ¬ (sizeV x : Int) < sizeV y := by omega
              have l'' : (sizeV y : Int) < sizeV x := by omega
              rw [if_neg l, if_pos (by simp [cmpI, l', l''])]
              simp [cmpI, l', l'']]
        exact h
      · rw [show cmpR n = rowsV from funext fun x => funext fun y => by unfold cmpR; rw [if_neg h0, if_neg h1, if_neg h2]]
        exact hr

/-- Entries by the comparator, then by their rows' numbers. -/
def entC (n : Int) (a b : List V × Int) : Int := if cmpR n a.1 b.1 ≠ 0 then cmpR n a.1 b.1 else cmpI a.2 b.2

theorem entC_ord (n : Int) : Ord3 (entC n) := ((cmpR_ord n).on Prod.fst).lex (cmpI_ord.on Prod.snd)

theorem rankC_ent (n : Int) (K : List V) (rid : Int) (e : En) : rankC n K rid e = entC n (e.kv, e.id) (K, rid) := rfl

/-- Sorted, each entry once. -/
def Sorted (n : Int) (L : List En) : Prop := L.Pairwise (fun x y => entC n (x.kv, x.id) (y.kv, y.id) < 0)

theorem entC_cmp {n : Int} {a b : List V × Int} (h : entC n a b ≤ 0) : cmpR n a.1 b.1 ≤ 0 := by
  unfold entC at h
  by_cases h0 : cmpR n a.1 b.1 = 0
  · omega
  · rw [if_pos h0] at h
    exact h

theorem ord_mono {α : Type} {c : α → α → Int} (h : Ord3 c) {x y q : α} (hxy : c x y ≤ 0) : (0 ≤ c x q → 0 ≤ c y q) ∧ (0 < c x q → 0 < c y q) := by
  constructor
  · intro h0
    by_cases h1 : 0 ≤ c y q
    · exact h1
    · have h2 := h.trans x y q hxy (by omega)
      have := (h.zero (z := q) hxy (show c y q ≤ 0 by omega) (by omega)).2
      omega
  · intro h0
    by_cases h1 : 0 < c y q
    · exact h1
    · have h2 := h.trans x y q hxy (by omega)
      omega

theorem Sorted.mono {n : Int} {L : List En} (h : Sorted n L) (K : List V) (rid : Int) :
    L.Pairwise (fun x y => 0 ≤ rankC n K rid x → 0 ≤ rankC n K rid y) ∧ L.Pairwise (fun x y => 0 < rankC n K rid x → 0 < rankC n K rid y) ∧ L.Pairwise (fun x y => 0 ≤ cmpR n x.kv K → 0 ≤ cmpR n y.kv K) ∧ L.Pairwise (fun x y => 0 < cmpR n x.kv K → 0 < cmpR n y.kv K) :=
  ⟨h.imp (fun {x y} hx => (ord_mono (entC_ord n) (x := (x.kv, x.id)) (y := (y.kv, y.id)) (q := (K, rid)) (by omega)).1), h.imp (fun {x y} hx => (ord_mono (entC_ord n) (x := (x.kv, x.id)) (y := (y.kv, y.id)) (q := (K, rid)) (by omega)).2), h.imp (fun {x y} hx => (ord_mono (cmpR_ord n) (x := x.kv) (y := y.kv) (q := K) (entC_cmp (a := (x.kv, x.id)) (b := (y.kv, y.id)) (by omega))).1), h.imp (fun {x y} hx => (ord_mono (cmpR_ord n) (x := x.kv) (y := y.kv) (q := K) (entC_cmp (a := (x.kv, x.id)) (b := (y.kv, y.id)) (by omega))).2)⟩

theorem rank_zero {n : Int} {K : List V} {rid : Int} {e : En} : rankC n K rid e = 0 ↔ e.id = rid ∧ cmpR n e.kv K = 0 := by
  unfold rankC
  by_cases h0 : cmpR n e.kv K = 0
  · rw [if_neg (by simp [h0])]
    unfold cmpI
    constructor
    · intro h
      refine ⟨?_, h0⟩
      split at h
      · omega
      · split at h <;> omega
    · rintro ⟨h1, _⟩
      rw [h1]
      simp
  · rw [if_pos h0]
    exact ⟨fun h => absurd h h0, fun h => h.2⟩

theorem Sorted.insert {n : Int} {L : List En} (h : Sorted n L) {K : List V} {rid : Int} {i : Nat} {e : En} (he : e.kv = K) (hid : e.id = rid) (f1 : ∀ y ∈ L.take i, rankC n K rid y < 0) (f2 : ∀ y ∈ L.drop i, 0 ≤ rankC n K rid y) (hno : ¬ ∃ y ∈ L, y.id = rid ∧ cmpR n y.kv K = 0) : Sorted n (L.take i ++ e :: L.drop i) := by
  have hs := h
  unfold Sorted at hs ⊢
  rw [← List.take_append_drop i L, List.pairwise_append] at hs
  obtain ⟨s1, s2, s3⟩ := hs
  have hlt : ∀ y ∈ L.drop i, entC n (e.kv, e.id) (y.kv, y.id) < 0 := fun y hy => by
    have h0 : rankC n K rid y ≠ 0 := fun h0 => hno ⟨y, List.mem_of_mem_drop hy, (rank_zero.1 h0).1, (rank_zero.1 h0).2⟩
    have h1 := f2 y hy
    rw [rankC_ent] at h0 h1
    have := (entC_ord n).anti (e.kv, e.id) (y.kv, y.id)
    rw [he, hid] at this ⊢
    omega
  rw [List.pairwise_append, List.pairwise_cons]
  refine ⟨s1, ⟨hlt, s2⟩, fun p hp b hb => ?_⟩
  rcases List.mem_cons.1 hb with rfl | hb
  · have := f1 p hp
    rw [rankC_ent] at this
    rw [he, hid]
    exact this
  · exact s3 p hp b hb

end Go.Proofs.YtgfmemggfbgjeaaGreatDoor

namespace Go.Proofs.YtgfmemggfbgjeaaGreatDoor
open Go.RowKit Go.Extern.Stop Go.Stop Go.Extern Go.Lib
set_option maxRecDepth 1000000

theorem OxAt.got2 {w w' : World} {P : Nat → Prop} {x t bm bn i : Nat} {uq : Bool} {mp : Value} {n a a2 c cc h s : Int} {L : List En} {e : En} (hO : OxAt w P x t bm bn uq mp n a L c) (hm : MAt w mp cc a2 h s) (hg : TreeGot w w' P t L (L.take i ++ e :: L.drop i) c) (he : KeyOk w mp e.key e.kv) (het : e.key.ownBlock ≠ some t) : ∃ d : Nat, d ≤ 3 * (Nat.log2 (L.length + 1) / 2) + 3 ∧ OxAt w' P x t bm bn uq mp n a (L.take i ++ e :: L.drop i) (c + d) ∧ MAt w' mp cc a2 h s ∧ Same (fun k => k = t) w w' := by
  obtain ⟨⟨d, hh, hl, hd, ht⟩, hs⟩ := hg
  obtain ⟨r, hr⟩ := hO.head
  have hxt : x ≠ t := fun e => by subst e; have := hO.idx.symm.trans hr; simp at this
  have hmt : ∀ k, Blk mp k → ¬ k = t := fun k hk e => by subst e; exact hO.pm k hk hO.tree.1
  have hmem : ∀ y ∈ L.take i ++ e :: L.drop i, y ∈ L ∨ y = e := fun y hy => by
    rcases List.mem_append.1 hy with h | h
    · exact Or.inl (List.mem_of_mem_take h)
    · rcases List.mem_cons.1 h with h | h
      · exact Or.inr h
      · exact Or.inl (List.mem_of_mem_drop h)
  refine ⟨d, low_most hl hd, ⟨hs.obj hO.idx hxt, ht, hs.one hO.bm (head_ne hr hO.bm), hs.one hO.bn (head_ne hr hO.bn), fun y hy => ?_, hO.sm, hO.calm, hO.pm, fun y hy => ?_⟩, hm.same hs hmt, hs⟩
  · rcases hmem y hy with h | rfl
    · exact (hO.keys y h).kept hs (fun k hk e => hO.kt y h (by rw [hk, e]))
    · exact he.kept hs (fun k hk e => het (by rw [hk, e]))
  · rcases hmem y hy with h | rfl
    · exact hO.kt y h
    · exact het

/-- What Insert answers, where the comparator doesn't fail. -/
def InsF (w : World) (P : Nat → Prop) (x t bm bn : Nat) (uq : Bool) (mp : Value) (n a h s : Int) (L : List En) (c : Int) (K : List V) (rid : Int) (r : Ending) (w' : World) : Prop :=
  ∃ c', MAt w' mp c' a h s ∧ Same (fun k => Blk mp k ∨ k = t) w w' ∧
    ((∃ y ∈ L, y.id = rid ∧ cmpR n y.kv K = 0 ∧ r = .returned (.tuple #[.int .i64 0, .iface 65 (.int .i64 72)]) ∧ OxAt w' P x t bm bn uq mp n 0 L c) ∨
     (uq = true ∧ ∃ (i b : Nat) (y : En), L[i]? = some y ∧ cmpR n y.kv K = 0 ∧ (∀ z ∈ L.take i, cmpR n z.kv K < 0) ∧ w.heap.size ≤ b ∧ w'.heap[b]? = some (twObj y.id) ∧ r = .returned (.tuple #[.int .i64 0, .iface 92 (.pointer (some ⟨b, 0, none⟩))]) ∧ (¬ ∃ y ∈ L, y.id = rid ∧ cmpR n y.kv K = 0) ∧ OxAt w' P x t bm bn uq mp n 0 L c) ∨
     (∃ (i : Nat) (e : En) (d : Nat), i ≤ L.length ∧ (∀ y ∈ L.take i, rankC n K rid y < 0) ∧ (∀ y ∈ L.drop i, 0 ≤ rankC n K rid y) ∧ (uq = true → ∀ y ∈ L, cmpR n y.kv K ≠ 0) ∧ (¬ ∃ y ∈ L, y.id = rid ∧ cmpR n y.kv K = 0) ∧ e.kv = K ∧ e.id = rid ∧ (∀ k, e.key.ownBlock = some k → w.heap.size ≤ k) ∧ d ≤ 3 * (Nat.log2 (L.length + 1) / 2) + 3 ∧ r = .returned (.tuple #[.int .i64 i, .nilIface]) ∧ OxAt w' P x t bm bn uq mp n 0 (L.take i ++ e :: L.drop i) (c + d)))

set_option maxHeartbeats 16000000 in
theorem insert_fail {w : World} {P : Nat → Prop} {x t bm bn : Nat} {uq : Bool} {v mp : Value} {K : List V} {L : List En} {n a c cc h s rid : Int} (hO : OxAt w P x t bm bn uq mp n 0 L c) (hm : MAt w mp cc a h s) (hsm : MSmall a) (hg : Handle w) (hK : KeyOk w mp v K) (hP : ∀ k, w.heap.size ≤ k → P k) (hL : L.length ≤ 80000) (hc : 0 ≤ c ∧ c ≤ 600000000) (hS : Sorted n L) :
    Calls Tryz.prog 12 #[.pointer (some ⟨x, 0, none⟩), v, .int .i64 rid] w fun r w' => InsF w P x t bm bn uq mp n a h s L c K rid r w' ∨ ∃ p : Nat, r = .returned (.tuple #[.int .i64 0, markI p]) ∧ FailTo w mp a h s p w' := by
  obtain ⟨m1, m4, m2, m3⟩ := hS.mono K rid
  have HR := Lib.hid (rank_fail hO hm hsm hg hK (by omega) m1)
  have HK1 := Lib.hid (fun (W : World) (hs : Same (Blk mp) w W) => And.intro (hO.kept2 hm hs) (And.intro (hK.kept hs hK.mt) (handle_far hg hm hs)))
  obtain ⟨vo, vc, rfl⟩ := readV_len hK.rd
  have HP := Lib.hid hP; have H2 := Lib.hid m2; have H3 := Lib.hid m3; have H4 := Lib.hid m4
  clear hO hm hK m1 hP m2 m3 m4 hS hg
  go_enter Tryz.func12, Tryz.ntmps12
  go_wp2_with fail
  refine HR.out.mono ?_
  rintro r w1 (⟨i, b, c1, rfl, hi, f1, f2, hb, hs1, hm1⟩ | ⟨p, rfl, hs1, hm1, hp1, hpo⟩)
  · obtain ⟨hO1, hK1, hg1⟩ := HK1.out w1 hs1
    have HF1 := Lib.hid f1; have HF2 := Lib.hid f2; have HB := Lib.hid hb; have HS1 := Lib.hid hs1; have HM1 := Lib.hid hm1; have HO1 := Lib.hid hO1; have HKK := Lib.hid hK1; have HG1 := Lib.hid hg1
    obtain ⟨i0, i1, i2, il⟩ := idx_cells hO1.idx
    clear f1 f2 hb hs1 hm1 hO1 hK1 hg1
    cases b with
    | true =>
      go_wp2_with fail
      go_ret2
      obtain ⟨y, hy, hy1, hy2⟩ := HB.out.1 (by trivial)
      exact Or.inl ⟨c1, HM1.out, HS1.out.weaken (fun _ _ h => Or.inl h), Or.inl ⟨y, List.mem_of_getElem? hy, hy1, hy2, rfl, HO1.out⟩⟩
    | false =>
      have HNO := Lib.hid (not_there H4.out HF1.out HF2.out (fun h => by have := HB.out.2 h; cases this))
      cases uq with
      | false =>
        have hd1 : Same (fun _ => False) w1 w1.drew := (Same.refl (fun _ => False) w1).drew
        have HCP := Lib.hid (clone_any (HKK.out.rd.kept hd1 (fun _ _ => id)) HKK.out.few)
        have HINS := Lib.hid (fun (W : World) (uo : Option Addr) (uc : Nat) (hs : Same (fun _ => False) w1 W) => tree_insert (v := (⟨uo, K.length, uc, rid, K⟩ : En)) (i := i) (HO1.out.tree.keep hs (fun _ h => h.elim)) (fun k hk => HP.out k (by have e1 := HS1.out.size; have e2 := hs.size; omega)) ⟨hc.1, by omega⟩ (by omega) hi)
        have HD1 := Lib.hid hd1
        clear hd1
        go_wp2_with fail
        go_region_with (first
          | (go_at_call 36; refine HCP.out.mono ?_; rintro r w3 ⟨u, rfl, ho, hs3⟩; obtain ⟨uo, uc, rfl⟩ := readV_len (ReadV.own ho); have HOW := Lib.hid ho; have HS3 := Lib.hid (HD1.out.trans hs3 (fun _ _ h => h)); obtain ⟨q0, _, _, ql⟩ := idx_cells (HS3.out.obj HO1.out.idx id); clear ho hs3)
          | (go_at_call 35; refine (HINS.out w3 uo uc HS3.out).mono ?_; rintro r w4 ⟨rfl, hg⟩; have HG := Lib.hid hg; clear hg))
        all_goals go_wp2_with fail
        all_goals (
          go_ret2
          obtain ⟨rr, hrr⟩ := HO1.out.head
          have htl := lt_of_block hrr
          have hm3 : MAt w3 mp c1 a h s := HM1.out.same HS3.out (fun _ _ => id)
          have hO3 : OxAt w3 P x t bm bn false mp n 0 L c := HO1.out.kept2 HM1.out (HS3.out.weaken (fun _ _ h => h.elim))
          have hown : ∀ k, (Value.slice uo K.length uc).ownBlock = some k → w1.heap.size ≤ k := fun k hk => (HOW.out.lt k hk).1
          have hke : KeyOk w3 mp (Value.slice uo K.length uc) K := ⟨ReadV.own HOW.out, CapOk.own HOW.out, HKK.out.ok, HKK.out.small, HKK.out.few, fun k hk hb => by have e1 := hown k hk; have e2 := HM1.out.lt hb; omega⟩
          obtain ⟨d, hd, hO4, hm4, hs4⟩ := hO3.got2 (e := (⟨uo, K.length, uc, rid, K⟩ : En)) (i := i) hm3 HG.out hke (fun hk => by have := hown t hk; omega)
          exact Or.inl ⟨c1, hm4, ((HS1.out.weaken (fun _ _ h => Or.inl h)).trans HS3.out (fun _ _ h => h.elim)).trans hs4 (fun _ _ h => Or.inr h), Or.inr (Or.inr ⟨i, ⟨uo, K.length, uc, rid, K⟩, d, hi, HF1.out, HF2.out, fun h => (by cases h), HNO.out, rfl, rfl, (fun k hk => Nat.le_trans HS1.out.size (hown k hk)), hd, rfl, hO4⟩)⟩)
      | true =>
        have HFD := Lib.hid (find_fail HO1.out HM1.out hsm HG1.out HKK.out (by omega) H2.out H3.out)
        go_wp2_with fail
        refine HFD.out.mono ?_
        rintro r w2 (⟨fr, tu, c2, rfl, hfr, hto, g1, g2, g3, g4, hs2, hm2⟩ | ⟨p, rfl, hs2, hm2, hp2, hpo⟩)
        · have hO2 := HO1.out.kept2 HM1.out hs2
          have hK2 := HKK.out.kept hs2 HKK.out.mt
          obtain ⟨j0, j1, j2, jl⟩ := idx_cells hO2.idx
          have HG1 := Lib.hid g1; have HG2 := Lib.hid g2; have HG3 := Lib.hid g3; have HG4 := Lib.hid g4; have HS2 := Lib.hid (HS1.out.trans hs2 (fun _ _ h => h)); have HM2 := Lib.hid hm2; have HO2 := Lib.hid hO2; have HK2 := Lib.hid hK2
          clear g1 g2 g3 g4 hs2 hm2 hO2 hK2 i0 i1 i2 il
          by_cases hlt : fr < tu
          · have hlt' : (fr : Int) < (tu : Int) := by omega
            have hil : fr < L.length := by omega
            have HAT := Lib.hid (tree_at HO2.out.tree (by omega) hil)
            have hyi : L[fr]? = some L[fr] := List.getElem?_eq_getElem hil
            have hyd : L[fr] ∈ L.drop fr := by rw [List.drop_eq_getElem_cons hil]; exact List.mem_cons_self
            have hyt : L[fr] ∈ L.take tu := by
              refine List.mem_iff_getElem?.2 ⟨fr, ?_⟩
              rw [List.getElem?_take_of_lt hlt, hyi]
            have hz0 : cmpR n L[fr].kv K = 0 := by have e1 := HG2.out _ hyd; have e2 := HG3.out _ hyt; omega
            generalize L[fr] = y at *
            have HYI := Lib.hid hyi; have HZ0 := Lib.hid hz0
            clear hyi hyd hyt hz0
            go_wp2_with fail
            refine HAT.out.mono ?_
            rintro r w3 ⟨rfl, hs3⟩
            obtain ⟨w4, hw4⟩ : ∃ w4, w4 = w3.alloc (entObj y) := ⟨_, rfl⟩
            have hs4 : Same (fun _ => False) w2 w4 := by rw [hw4]; exact hs3.alloc _
            have hyb : w4.heap[w3.heap.size]? = some (entObj y) := by rw [hw4]; exact heap_alloc_new _ _
            obtain ⟨y0, y1, _, _⟩ := ent_cells hyb
            have hyl := lt_of_block hyb
            have HW4 := Lib.hid hw4; have HS4 := Lib.hid hs4
            clear hs3 hw4 hs4 hyb
            go_upto_region 12 with fail
            rw [← HW4.out]
            go_region
            all_goals go_wp2_with fail
            go_ret2
            have hs5 := (HS4.out.alloc (twObj y.id)).drew
            have hs5' : Same (Blk mp) w2 (w4.alloc (twObj y.id)).drew := hs5.weaken (fun _ _ h => h.elim)
            have hsz : w.heap.size ≤ w4.heap.size := Nat.le_trans HS2.out.size HS4.out.size
            exact Or.inl ⟨c2, HM2.out.same hs5 (fun _ _ => id), (HS2.out.trans hs5' (fun _ _ h => h)).weaken (fun _ _ h => Or.inl h), Or.inr (Or.inl ⟨rfl, fr, w4.heap.size, y, HYI.out, HZ0.out, HG1.out, hsz, heap_alloc_new w4 (twObj y.id), rfl, HNO.out, HO2.out.kept2 HM2.out hs5'⟩)⟩
          · have hlt' : ¬ (fr : Int) < (tu : Int) := by omega
            have hne : ∀ y ∈ L, cmpR n y.kv K ≠ 0 := fun y hy h0 => by
              rw [← List.take_append_drop fr L] at hy
              rcases List.mem_append.1 hy with g | g
              · have := HG1.out y g; omega
              · have hyd : y ∈ L.drop tu := by
                  have e : L.drop fr = (L.drop tu).drop (fr - tu) := by rw [List.drop_drop]; congr 1; omega
                  rw [e] at g
                  exact List.mem_of_mem_drop g
                have := HG4.out y hyd
                omega
            have hd1 : Same (fun _ => False) w2 w2.drew := (Same.refl (fun _ => False) w2).drew
            have HNE := Lib.hid hne
            have HCP := Lib.hid (clone_any (HK2.out.rd.kept hd1 (fun _ _ => id)) HK2.out.few)
            have HINS := Lib.hid (fun (W : World) (uo : Option Addr) (uc : Nat) (hs : Same (fun _ => False) w2 W) => tree_insert (v := (⟨uo, K.length, uc, rid, K⟩ : En)) (i := i) (HO2.out.tree.keep hs (fun _ h => h.elim)) (fun k hk => HP.out k (by have e1 := HS2.out.size; have e2 := hs.size; omega)) ⟨hc.1, by omega⟩ (by omega) hi)
            have HD1 := Lib.hid hd1
            clear hd1 hne
            go_wp2_with fail
            go_region_with (first
              | (go_at_call 36; refine HCP.out.mono ?_; rintro r w3 ⟨u, rfl, ho, hs3⟩; obtain ⟨uo, uc, rfl⟩ := readV_len (ReadV.own ho); have HOW := Lib.hid ho; have HS3 := Lib.hid (HD1.out.trans hs3 (fun _ _ h => h)); obtain ⟨q0, _, _, ql⟩ := idx_cells (HS3.out.obj HO2.out.idx id); clear ho hs3)
              | (go_at_call 35; refine (HINS.out w3 uo uc HS3.out).mono ?_; rintro r w4 ⟨rfl, hg⟩; have HG := Lib.hid hg; clear hg))
            all_goals go_wp2_with fail
            all_goals (
              go_ret2
              obtain ⟨rr, hrr⟩ := HO2.out.head
              have htl := lt_of_block hrr
              have hm3 : MAt w3 mp c2 a h s := HM2.out.same HS3.out (fun _ _ => id)
              have hO3 : OxAt w3 P x t bm bn true mp n 0 L c := HO2.out.kept2 HM2.out (HS3.out.weaken (fun _ _ h => h.elim))
              have hown : ∀ k, (Value.slice uo K.length uc).ownBlock = some k → w2.heap.size ≤ k := fun k hk => (HOW.out.lt k hk).1
              have hke : KeyOk w3 mp (Value.slice uo K.length uc) K := ⟨ReadV.own HOW.out, CapOk.own HOW.out, HK2.out.ok, HK2.out.small, HK2.out.few, fun k hk hb => by have e1 := hown k hk; have e2 := HM2.out.lt hb; omega⟩
              obtain ⟨d, hd, hO4, hm4, hs4⟩ := hO3.got2 (e := (⟨uo, K.length, uc, rid, K⟩ : En)) (i := i) hm3 HG.out hke (fun hk => by have := hown t hk; omega)
              exact Or.inl ⟨c2, hm4, ((HS2.out.weaken (fun _ _ h => Or.inl h)).trans HS3.out (fun _ _ h => h.elim)).trans hs4 (fun _ _ h => Or.inr h), Or.inr (Or.inr ⟨i, ⟨uo, K.length, uc, rid, K⟩, d, hi, HF1.out, HF2.out, (fun _ => HNE.out), HNO.out, rfl, rfl, (fun k hk => Nat.le_trans HS2.out.size (hown k hk)), hd, rfl, hO4⟩)⟩)
        · have HSB := Lib.hid (HS1.out.trans hs2 (fun _ _ h => h)); have HM2 := Lib.hid hm2; have HPO := Lib.hid hpo
          have hpw : w.heap.size ≤ p := Nat.le_trans HS1.out.size hp2
          clear hs2 hm2 hpo
          go_wp2_with fail
          go_ret2
          exact Or.inr ⟨p, rfl, HSB.out, HM2.out, hpw, HPO.out⟩
  · have HSB := Lib.hid hs1; have HM2 := Lib.hid hm1; have HPO := Lib.hid hpo
    clear hs1 hm1 hpo
    go_wp2_with fail
    go_ret2
    exact Or.inr ⟨p, rfl, HSB.out, HM2.out, hp1, HPO.out⟩

end Go.Proofs.YtgfmemggfbgjeaaGreatDoor

namespace Go.Proofs.YtgfmemggfbgjeaaGreatDoor
open Go.RowKit Go.Extern.Stop Go.Stop Go.Extern Go.Lib
set_option maxRecDepth 1000000

theorem OxAt.turned0 {w w' : World} {P : Nat → Prop} {x t bm bn : Nat} {uq : Bool} {mp : Value} {n a c : Int} {L L' : List En} (hO : OxAt w P x t bm bn uq mp n a L c) (hg : TreeGot w w' P t L L' c) (hsub : ∀ y ∈ L', y ∈ L) : ∃ d : Nat, d ≤ 3 * (Nat.log2 (L.length + 1) / 2) + 3 ∧ OxAt w' P x t bm bn uq mp n a L' (c + d) ∧ Same (fun k => k = t) w w' := by
  obtain ⟨⟨d, hh, hl, hd, ht⟩, hs⟩ := hg
  obtain ⟨r, hr⟩ := hO.head
  have hxt : x ≠ t := fun e => by subst e; have := hO.idx.symm.trans hr; simp at this
  exact ⟨d, low_most hl hd, ⟨hs.obj hO.idx hxt, ht, hs.one hO.bm (head_ne hr hO.bm), hs.one hO.bn (head_ne hr hO.bn), fun y hy => (hO.keys y (hsub y hy)).kept hs (fun k hk e => hO.kt y (hsub y hy) (by rw [hk, e])), hO.sm, hO.calm, hO.pm, fun y hy => hO.kt y (hsub y hy)⟩, hs⟩

set_option maxHeartbeats 4000000 in
theorem ierase_at {w0 : World} {P : Nat → Prop} {x t bm bn i : Nat} {uq : Bool} {mp : Value} {L : List En} {n a c : Int} (hO : OxAt w0 P x t bm bn uq mp n a L c) (hP : ∀ k, w0.heap.size ≤ k → P k) (hL : L.length ≤ 80000) (hc : 0 ≤ c ∧ c ≤ 600000000) (hi : i < L.length) :
    Calls Tryz.prog 22 #[.pointer (some ⟨x, 0, none⟩), .int .i64 i] w0 fun r w' => r = .returned (.tuple #[L[i].agg, .int .i64 0]) ∧ ∃ d : Nat, d ≤ 3 * (Nat.log2 (L.length + 1) / 2) + 3 ∧ OxAt w' P x t bm bn uq mp n a (L.take i ++ L.drop (i + 1)) (c + d) ∧ Same (fun k => k = t) w0 w' := by
  obtain ⟨w, hw⟩ : ∃ w, w = w0.alloc entNil := ⟨_, rfl⟩
  have hsb : Same (fun _ => False) w0 w := by rw [hw]; exact (Same.refl _ w0).alloc _
  have hrb : w.heap[w0.heap.size]? = some entNil := by rw [hw]; exact heap_alloc_new _ _
  have hsz : w.heap.size = w0.heap.size + 1 := by rw [hw]; simp
  have hT : TreeIs w (fun k => P k ∧ k ≠ w0.heap.size) t L c := (hO.tree.mono (fun k hk hp => ⟨hp, by omega⟩)).keep hsb (fun _ h => h.elim)
  have hidx := hsb.obj hO.idx id
  obtain ⟨i0, i1, i2, il⟩ := idx_cells hidx
  have HER := Lib.hid (tree_erase hT (fun k hk => ⟨hP k (by omega), by omega⟩) ⟨hc.1, by omega⟩ (by omega) hi)
  have HFIN := Lib.hid (fun (W : World) (hg : TreeGot w W (fun k => P k ∧ k ≠ w0.heap.size) t L (L.take i ++ L.drop (i + 1)) c) => hO.turned0 (erase_fin hsb (Nat.le_refl _) L[i] hg) (fun y hy => (List.mem_append.1 hy).elim List.mem_of_mem_take List.mem_of_mem_drop))
  obtain ⟨rr, hrr⟩ := hO.head
  have htl := lt_of_block hrr
  generalize L[i] = y at *
  generalize L.take i ++ L.drop (i + 1) = L2 at *
  have HW := Lib.hid hw; have HRB := Lib.hid hrb
  clear hO hw hsb hrb hT hidx hi hrr hP hsz
  go_enter Tryz.func22, Tryz.ntmps22
  go_upto_region 1 with fail
  rw [← HW.out]
  go_wp2_with fail
  refine HER.out.mono ?_
  rintro r w2 ⟨rfl, hg⟩
  have hr2 := hg.2.obj HRB.out (fun e => by omega)
  obtain ⟨r0, r1, rf0, rf1⟩ := ent_cells hr2
  have hrl := lt_of_block hr2
  have HR2 := Lib.hid hr2; have HG := Lib.hid hg
  clear hr2 hg
  go_wp2_with fail
  exact ierase_ret (p := w0.heap.size) (e := y) rfl (set2_obj HR2.out y) rfl rfl ⟨rfl, HFIN.out _ HG.out⟩

set_option maxHeartbeats 16000000 in
theorem iall_at {w0 : World} {P : Nat → Prop} {x t bm bn : Nat} {uq : Bool} {mp : Value} {L : List En} {n a c : Int} (hO : OxAt w0 P x t bm bn uq mp n a L c) (hL : L.length ≤ 80000) :
    Calls Tryz.prog 19 #[.pointer (some ⟨x, 0, none⟩)] w0 fun r w' => AllEnd w0 L r w' := by
  have hdr : Same (fun _ => False) w0 w0.drew := (Same.refl (fun _ => False) w0).drew
  have HLEN := Lib.hid (xlen_any (hO.keepF hdr id id id (fun _ h => h.elim) (fun _ _ _ _ => id)))
  have HALL := Lib.hid (fun (W : World) (hs : Same (fun _ => False) w0 W) => tree_all (hO.tree.keep hs (fun _ h => h.elim)) (by omega))
  have HID := Lib.hid (fun (W : World) (hs : Same (fun _ => False) w0 W) => idx_cells (hs.obj hO.idx id))
  have HKS := Lib.hid (fun (e : En) (he : e ∈ L) => And.intro (hO.keys e he).rd (hO.keys e he).few)
  obtain ⟨i0, i1, i2, il⟩ := idx_cells hO.idx
  have HDR := Lib.hid hdr
  clear hO hdr
  go_enter Tryz.func19, Tryz.ntmps19
  go_upto_region 1 with fail
  go_cut [3] from 6 to 13 (fun s3 wx => ∃ vo vc, s3 = .slice vo L.length vc ∧ wx.ownsRow w0.heap.size 57 2 (.slice vo L.length vc) L.length (entsV L) ∧ Same (fun _ => False) w0 wx)
  case first =>
    go_region_with (first
      | (go_at_call 15; refine HLEN.out.mono ?_; rintro r w1 ⟨rfl, hs1⟩; have HS1 := Lib.hid (HDR.out.trans hs1 (fun _ _ h => h)); obtain ⟨q0, _, _, ql⟩ := HID.out w1 HS1.out; clear hs1)
      | (go_at_call 46; refine (HALL.out w1 HS1.out).mono ?_; rintro r w2 ⟨v, rfl, ho, hs2⟩; obtain ⟨vo, vc, rfl, _⟩ := ReadE.shape (ownsRow_readZ ho); have HOW := Lib.hid ho; have HSZ := Lib.hid (HS1.out.size); have HS2 := Lib.hid (HS1.out.trans hs2 (fun _ _ h => h)); clear ho hs2))
    all_goals go_wp2_with fail
    all_goals go_meet
    all_goals exact ⟨vo, vc, rfl, own_base2 HOW.out HSZ.out, HS2.out⟩
  case rest =>
    obtain ⟨vo, vc, rfl, how, hsc⟩ := hcut
    have HOW := Lib.hid how; have HSC := Lib.hid hsc
    clear how hsc
    go_wp2_with fail
    go_loopg [15] L.length (fun rr v15 wr => ∃ (j : Nat) (L' : List En), j + rr = L.length ∧ v15 = .int .i64 j ∧ L'.length = j ∧ kvs L' = kvs (L.take j) ∧ wr.ownsRow w0.heap.size 57 2 (.slice vo L.length vc) L.length (entsV (L' ++ L.drop j)) ∧ (∀ e ∈ L', ReadV wr e.key e.kv ∧ CapOk e.key ∧ ∀ k, e.key.ownBlock = some k → w0.heap.size ≤ k ∧ k < wr.heap.size ∧ (Value.slice vo L.length vc).ownBlock ≠ some k) ∧ Same (fun _ => False) w0 wr)
    case atStart => exact ⟨0, [], by omega, rfl, rfl, rfl, HOW.out, (fun e he => by cases he), HSC.out⟩
    case round =>
      obtain ⟨j, L', hj, rfl, hl2, hkv, hrow, hks, hsr⟩ := hrel
      have HSR := Lib.hid hsr; have HROW := Lib.hid hrow; have HKV := Lib.hid hkv; have HK2 := Lib.hid hks; have HL2 := Lib.hid hl2
      clear hrow hkv hks hl2
      by_cases hlast : j < L.length
      · have hl' : (j : Int) < (L.length : Int) := by omega
        have hget : (L' ++ L.drop j)[j]? = some L[j] := by
          rw [List.getElem?_append_right (by rw [HL2.out]; omega), HL2.out, Nat.sub_self, List.getElem?_drop, Nat.add_zero, List.getElem?_eq_getElem hlast]
        obtain ⟨ab, ao2, hab, hla, hx0, hx1⟩ := ReadE.at (ownsRow_readZ HROW.out) hget
        obtain ⟨kr, kf⟩ := HKS.out _ (List.getElem_mem hlast)
        have HY := Lib.hid (List.getElem?_eq_getElem hlast)
        generalize L[j] = y at *
        obtain ⟨yo, yn, yc, yi, yk⟩ := y
        obtain rfl : ao2 = 0 := by
          rcases HROW.out.2 with ⟨e, _⟩ | ⟨g', cap', cur, e, _⟩
          · rw [hab] at e; cases e
          · rw [hab] at e; simp only [Value.slice.injEq, Option.some.injEq, Addr.mk.injEq] at e; exact e.1.2.1
        subst hab
        rw [Nat.zero_add] at hx0 hx1
        obtain ⟨w4, hw4⟩ : ∃ w4, w4 = wr.alloc (entObj (⟨yo, yn, yc, yi, yk⟩ : En)) := ⟨_, rfl⟩
        have hs4 : Same (fun _ => False) wr w4 := by rw [hw4]; exact (Same.refl _ wr).alloc _
        have hyb : w4.heap[wr.heap.size]? = some (entObj (⟨yo, yn, yc, yi, yk⟩ : En)) := by rw [hw4]; exact heap_alloc_new _ _
        obtain ⟨q0, q1, _, _⟩ := ent_cells hyb
        have hql := lt_of_block hyb
        have HCP := Lib.hid (copied_any (w0 := w4) (e := (⟨yo, yn, yc, yi, yk⟩ : En)) (kr.kept (hsr.trans hs4 (fun _ _ h => h)) (fun _ _ => id)) kf)
        have HW4 := Lib.hid hw4; have HS4 := Lib.hid hs4; have HGET := Lib.hid hget
        clear hsr hw4 hs4 hyb hget kr kf
        go_upto_region 5 with fail
        rw [← HW4.out]
        go_wp2_with fail
        refine HCP.out.mono ?_
        rintro r w5 ⟨⟨eo, en, ec, ei, ek⟩, rfl, hid', hkv', ho5, hs5⟩
        have hs45 := HS4.out.trans hs5 (fun _ _ h => h)
        have hrow5 := hs45.row HROW.out (fun _ _ => id)
        obtain ⟨hba, hnc, hcm, _, cs, hcl, _, hgb⟩ := ownsRow_open2 hrow5
        obtain ⟨_, _, e9, _, z0, z1⟩ := ReadE.at (ownsRow_readZ hrow5) HGET.out
        cases e9
        rw [Nat.zero_add] at z0 z1
        have f1 : w5.frozen? ⟨ab, j * 2, none⟩ = false := by simp [World.frozen?, hgb]
        have f2 : w5.frozen? ⟨ab, j * 2 + 1, none⟩ = false := by simp [World.frozen?, hgb]
        have hgl := lt_of_block hgb
        have HH := Lib.hid (own_put (j := j) hrow5 ⟨eo, en, ec, ei, ek⟩)
        have HEI := Lib.hid hid'; have HEK := Lib.hid hkv'; have HO5 := Lib.hid ho5; have HS5 := Lib.hid hs45
        clear hs5 hs45 hrow5 hgb hid' hkv' ho5 hcl hcm hnc
        go_wp2_with fail
        go_roundg (L.length - (j + 1))
        case measure => omega
        case rel =>
          have hst : Same (fun k => k = ab) w5 ((w5.setCell ⟨ab, j * 2, none⟩ (.slice eo en ec)).setCell ⟨ab, j * 2 + 1, none⟩ (.int .i64 ei)) := ((Same.refl (fun k => k = ab) w5).setCell (p := ⟨ab, j * 2, none⟩) (fun _ => rfl) _).setCell (p := ⟨ab, j * 2 + 1, none⟩) (fun _ => rfl) _
          have hst2 := (HS5.out.weaken (F' := fun k => k = ab) (fun _ _ h => h.elim)).trans hst (fun _ _ h => h)
          have hset : (L' ++ L.drop j).set j ⟨eo, en, ec, ei, ek⟩ = (L' ++ [⟨eo, en, ec, ei, ek⟩]) ++ L.drop (j + 1) := by
            rw [List.drop_eq_getElem_cons hlast, List.set_append_right _ _ (by rw [HL2.out]; omega), HL2.out, Nat.sub_self, List.set_cons_zero, List.append_assoc]
            rfl
          refine ⟨j + 1, L' ++ [⟨eo, en, ec, ei, ek⟩], by omega, by go_num, by rw [List.length_append, HL2.out]; rfl, ?_, by rw [← hset]; exact HH.out, fun e he => ?_, HSR.out.trans hst2 (fun i hi h => by omega)⟩
          · rw [List.take_add_one, HY.out, kvs, List.map_append, ← kvs, HKV.out, kvs, kvs, List.map_append]
            rw [show (⟨eo, en, ec, ei, ek⟩ : En) = ⟨eo, en, ec, yi, yk⟩ by rw [HEI.out, HEK.out]]
            rfl
          · rcases List.mem_append.1 he with h | h
            · obtain ⟨a1, a2, a3⟩ := HK2.out e h
              exact ⟨a1.kept hst2 (fun k hk ek => (a3 k hk).2.2 (by rw [ek]; rfl)), a2, fun k hk => ⟨(a3 k hk).1, Nat.lt_of_lt_of_le (a3 k hk).2.1 hst2.size, (a3 k hk).2.2⟩⟩
            · obtain rfl : e = ⟨eo, en, ec, ei, ek⟩ := by simpa using h
              have hek : ek = yk := HEK.out
              have h5 := HO5.out
              rw [← hek] at h5
              have hlt : ∀ k, (Value.slice eo en ec).ownBlock = some k → w4.heap.size ≤ k := fun k hk => (h5.lt k hk).1
              have hs4 := HS4.out.size
              have hs0 := HSR.out.size
              exact ⟨(ReadV.own h5).kept hst (fun k hk ek => by have := hlt k hk; omega), CapOk.own h5, fun k hk => ⟨by have := hlt k hk; omega, Nat.lt_of_lt_of_le (h5.lt k hk).2 hst.size, fun h => by have := hlt k hk; rw [show ab = k by simpa [Value.ownBlock] using h] at hla; omega⟩⟩
      · have hl' : ¬ (j : Int) < (L.length : Int) := by omega
        obtain rfl : L.length = j := by omega
        have HA := Lib.hid HROW.out
        clear hsr hj
        go_wp2_with fail
        go_ret
        have e1 : L' ++ L.drop L.length = L' := by rw [List.drop_length, List.append_nil]
        exact ⟨_, L', rfl, by rw [HKV.out, List.take_length], by rw [← e1]; exact HROW.out, fun e he => by obtain ⟨a1, a2, a3⟩ := HK2.out e he; exact ⟨a1, a2, fun k hk => ⟨(a3 k hk).1, (a3 k hk).2.1⟩⟩, HSR.out⟩

/-- The index, its meter ahead of it, the row that was told. -/
structure OrQ (w0 : World) (PB M x t bm bn : Nat) (uq : Bool) (n : Int) (wv : Value) (W L : List En) (k : Nat) (w : World) : Prop where
  same : Same (fun i => w0.heap.size ≤ i) w0 w
  lo : w0.heap.size ≤ M
  mid : M < PB
  ox : ∃ c, (0 ≤ c ∧ c ≤ 100 * (k : Int)) ∧ OxAt w (fun i => PB ≤ i) x t bm bn uq (mtp M) n 0 L c
  was : EntsR w wv W
  off : ∀ i, wv.ownBlock = some i → i ≠ t ∧ i ≠ M
  koff : ∀ e ∈ W, ∀ i, e.key.ownBlock = some i → i ≠ t ∧ i ≠ M

section
variable {w0 w w' : World} {PB M x t bm bn k : Nat} {uq : Bool} {n : Int} {wv : Value} {W L L' : List En}

theorem OrQ.head (h : OrQ w0 PB M x t bm bn uq n wv W L k w) : PB ≤ t ∧ t < w.heap.size := by
  obtain ⟨c, hc, ho⟩ := h.ox
  obtain ⟨r, hr⟩ := ho.head
  exact ⟨ho.tree.1, lt_of_block hr⟩

theorem OrQ.quiet (h : OrQ w0 PB M x t bm bn uq n wv W L k w) (hs : Same (fun _ => False) w w') : OrQ w0 PB M x t bm bn uq n wv W L k w' := by
  obtain ⟨c, hc, ho⟩ := h.ox
  exact ⟨h.same.trans hs (fun _ _ h => h.elim), h.lo, h.mid, ⟨c, hc, ho.keepF hs id id id (fun _ h => h.elim) (fun _ _ _ _ => id)⟩, h.was.kept hs (fun _ _ => id) (fun _ _ _ _ => id), h.off, h.koff⟩

theorem OrQ.step {k' : Nat} (h : OrQ w0 PB M x t bm bn uq n wv W L k w) (hs : Same (fun i => Blk (mtp M) i ∨ i = t) w w') (ho : ∃ c, (0 ≤ c ∧ c ≤ 100 * (k' : Int)) ∧ OxAt w' (fun i => PB ≤ i) x t bm bn uq (mtp M) n 0 L' c) : OrQ w0 PB M x t bm bn uq n wv W L' k' w' := by
  obtain ⟨h1, _⟩ := h.head
  have hlo := h.lo; have hmid := h.mid
  exact ⟨h.same.trans hs (fun i _ h => h.elim (fun h => by have := blk_mtp h; omega) (fun h => by omega)), h.lo, h.mid, ho, h.was.kept hs (fun i hi hz => hz.elim (fun hz => (h.off i hi).2 (blk_mtp hz)) (h.off i hi).1) (fun e he i hi hz => hz.elim (fun hz => (h.koff e he i hi).2 (blk_mtp hz)) (h.koff e he i hi).1), h.off, h.koff⟩

theorem OrQ.handle (h : OrQ w0 PB M x t bm bn uq n wv W L k w) (hg : Handle w0) : Handle w :=
  hg.same h.same (fun hz => by have := handle_low hg; omega)

theorem OrQ.mark (h : OrQ w0 PB M x t bm bn uq n wv W L k w) (hs : Same (Blk (mtp M)) w w') {c a hh s : Int} (hm : MAt w (mtp M) c a hh s) : OrQ w0 PB M x t bm bn uq n wv W L k w' := by
  obtain ⟨c, hc, ho⟩ := h.ox
  exact h.step (hs.weaken (fun _ _ h => Or.inl h)) ⟨c, hc, ho.kept2 hm hs⟩

theorem orq_insert {v : Value} {K : List V} {c a hh s rid : Int} (h : OrQ w0 PB M x t bm bn false n wv W L k w) (hm : MAt w (mtp M) c a hh s) (hsm : MSmall a) (hg : Handle w0) (hK : KeyOk w (mtp M) v K) (hS : Sorted n L) (hL : L.length ≤ 1000) (hk : k ≤ 10000) (hno : ∀ y ∈ L, y.id ≠ rid) :
    Calls Tryz.prog 12 #[.pointer (some ⟨x, 0, none⟩), v, .int .i64 rid] w fun r w' =>
      (∃ (i : Nat) (e : En) (c' : Int), i ≤ L.length ∧ e.id = rid ∧ e.kv = K ∧ r = .returned (.tuple #[.int .i64 i, .nilIface]) ∧ OrQ w0 PB M x t bm bn false n wv W (L.take i ++ e :: L.drop i) (k + 1) w' ∧ Sorted n (L.take i ++ e :: L.drop i) ∧ MAt w' (mtp M) c' a hh s) ∨
      (∃ (p : Nat) (c' : Int), r = .returned (.tuple #[.int .i64 0, markI p]) ∧ OrQ w0 PB M x t bm bn false n wv W L k w' ∧ MAt w' (mtp M) c' a hh (IntKind.i64.wrap (s + 1)) ∧ a ≠ 0) := by
  obtain ⟨c0, hc, ho⟩ := h.ox
  obtain ⟨ht1, ht2⟩ := h.head
  refine (insert_fail (rid := rid) ho hm hsm (h.handle hg) hK (fun i hi => by show PB ≤ i; omega) (by omega) (by omega) hS).mono ?_
  rintro r w' (⟨c', hm', hs, hend⟩ | ⟨p, rfl, hs, ⟨c', hm'⟩, hp, hpo, ha⟩)
  · rcases hend with ⟨y, hy, hy1, _⟩ | ⟨hu, _⟩ | ⟨i, e, d, hi, f1, f2, _, hno2, he, hid, _, hd, rfl, ho'⟩
    · exact absurd hy1 (hno y hy)
    · cases hu
    · have hfl := few_low (n := L.length) hL
      exact Or.inl ⟨i, e, c', hi, hid, he, rfl, h.step hs ⟨c0 + d, by omega, ho'⟩, hS.insert he hid f1 f2 hno2, hm'⟩
  · exact Or.inr ⟨p, c', rfl, h.mark hs hm, hm', ha⟩

theorem orq_erase {i : Nat} {c a hh s : Int} (h : OrQ w0 PB M x t bm bn uq n wv W L k w) (hm : MAt w (mtp M) c a hh s) (hi : i < L.length) (hL : L.length ≤ 1000) (hk : k ≤ 10000) :
    Calls Tryz.prog 22 #[.pointer (some ⟨x, 0, none⟩), .int .i64 i] w fun r w' => r = .returned (.tuple #[L[i].agg, .int .i64 0]) ∧ OrQ w0 PB M x t bm bn uq n wv W (L.take i ++ L.drop (i + 1)) (k + 1) w' ∧ MAt w' (mtp M) c a hh s := by
  obtain ⟨c0, hc, ho⟩ := h.ox
  obtain ⟨ht1, ht2⟩ := h.head
  have hmt : ∀ j, Blk (mtp M) j → ¬ j = t := fun j hj e => by have := blk_mtp hj; have := h.mid; omega
  refine (ierase_at ho (fun q hq => by show PB ≤ q; omega) (by omega) (by omega) hi).mono ?_
  rintro r w' ⟨rfl, d, hd, ho', hs⟩
  have hfl := few_low (n := L.length) hL
  exact ⟨rfl, h.step (hs.weaken (fun _ _ h => Or.inr h)) ⟨c0 + d, by omega, ho'⟩, hm.same hs hmt⟩

theorem orq_len (h : OrQ w0 PB M x t bm bn uq n wv W L k w) : Calls Tryz.prog 15 #[.pointer (some ⟨x, 0, none⟩)] w fun e w' => e = .returned (.int .i64 L.length) ∧ Same (fun _ => False) w w' := by
  obtain ⟨c, hc, ho⟩ := h.ox
  exact xlen_any ho

theorem orq_all (h : OrQ w0 PB M x t bm bn uq n wv W L k w) (hL : L.length ≤ 1000) : Calls Tryz.prog 19 #[.pointer (some ⟨x, 0, none⟩)] w fun r w' => AllEnd w L r w' := by
  obtain ⟨c, hc, ho⟩ := h.ox
  exact iall_at ho (by omega)

/-- What All has told is kept beside the index. -/
theorem OrQ.told {v : Value} (h : OrQ w0 PB M x t bm bn uq n wv W L k w) (how : w'.ownsRow w.heap.size 57 2 v L.length (entsV L')) (hk : ∀ e ∈ L', ReadV w' e.key e.kv ∧ CapOk e.key ∧ ∀ i, e.key.ownBlock = some i → w.heap.size ≤ i ∧ i < w'.heap.size) (hs : Same (fun _ => False) w w') : OrQ w0 PB M x t bm bn uq n v L' L k w' := by
  have h2 := h.quiet hs
  obtain ⟨ht1, ht2⟩ := h.head
  have hmid := h.mid
  refine ⟨h2.same, h2.lo, h2.mid, h2.ox, ⟨ownsRow_readZ how, fun e he => (hk e he).1⟩, fun i hi => ?_, fun e he i hi => ?_⟩
  · have := (how.lt i hi).1
    constructor <;> omega
  · have := ((hk e he).2.2 i hi).1
    constructor <;> omega

theorem orq_set {c a hh s m how : Int} (h : OrQ w0 PB M x t bm bn uq n wv W L k w) (hm : MAt w (mtp M) c a hh s) (hm0 : 0 ≤ m) :
    Calls Tryz.prog 20 #[.pointer (some ⟨M, 0, none⟩), .int .i64 m, .int .i64 how] w fun e w' => e = .returned (.tuple #[]) ∧ OrQ w0 PB M x t bm bn uq n wv W L k w' ∧ MAt w' (mtp M) 0 m (bits .and .i64 how 1023) 0 := by
  obtain ⟨m', h1, h2⟩ : ∃ m', mtp M = .pointer (some ⟨m', 0, none⟩) ∧ w.heap[m']? = some (meterObj c a hh s) := by
    rcases hm with h | ⟨m', h1, h2⟩
    · cases h
    · exact ⟨m', h1, h2⟩
  obtain rfl : M = m' := by simpa using h1
  refine (mset_any h2 m how hm0).mono ?_
  rintro e w' ⟨rfl, hs, hm'⟩
  exact ⟨rfl, h.mark (hs.weaken (fun i _ e => by subst e; simp [Blk])) hm, Or.inr ⟨M, rfl, hm'⟩⟩

theorem mat_cells {c a hh s : Int} (hm : MAt w (mtp M) c a hh s) : w.cell? ⟨M, 3, none⟩ = some (.int .i64 s) ∧ w.cell? ⟨M, 0, none⟩ = some (.int .i64 c) ∧ M < w.heap.size := by
  rcases hm with h | ⟨m', h1, h2⟩
  · cases h
  · obtain rfl : M = m' := by simpa using h1
    obtain ⟨c0, _, _, c3, _⟩ := meter_cells h2
    exact ⟨c3, c0, lt_of_block h2⟩
end

end Go.Proofs.YtgfmemggfbgjeaaGreatDoor
