/-
  Plain: an index of numbers: where they stand, and how many stand ahead. Conditions: none.
-/
import Derived.Test.YtgfmemggfbgjeaaGreatDoorM38
namespace Go.Proofs.YtgfmemggfbgjeaaGreatDoor
open Go.RowKit

/-- Numbers with their rows' numbers. -/
def src (j : Int) : List Int → List (Int × Int)
  | [] => []
  | a :: l => (a, j) :: src (j + 1) l

theorem src_snoc (a : Int) : ∀ (l : List Int) (j : Int), src j (l ++ [a]) = src j l ++ [(a, j + l.length)]
  | [], j => by simp [src]
  | b :: l, j => by
    have := src_snoc a l (j + 1)
    simp only [List.cons_append, src, this, List.length_cons]
    congr 4
    omega

theorem src_bounds : ∀ (l : List Int) (j : Int) (p : Int × Int), p ∈ src j l → j ≤ p.2 ∧ p.2 < j + l.length
  | [], _, _, h => by simp [src] at h
  | a :: l, j, p, h => by
    simp only [src, List.mem_cons] at h
    rcases h with rfl | h
    · simp only [List.length_cons]; omega
    · have := src_bounds l (j + 1) p h
      simp only [List.length_cons]; omega

theorem src_mem : ∀ (l : List Int) (j : Int) (i : Nat) (h : i < l.length), (l[i], j + i) ∈ src j l
  | a :: l, j, 0, _ => by simp [src]
  | a :: l, j, i + 1, h => by
    have := src_mem l (j + 1) i (by simpa using h)
    simp only [src, List.mem_cons, List.getElem_cons_succ]
    right
    have e : j + ((i + 1 : Nat) : Int) = j + 1 + i := by omega
    rw [e]; exact this

def lexB (p q : Int × Int) : Bool := decide (p.1 < q.1 ∨ p.1 = q.1 ∧ p.2 < q.2)

theorem lexB_iff {p q : Int × Int} : lexB p q = true ↔ p.1 < q.1 ∨ p.1 = q.1 ∧ p.2 < q.2 := by unfold lexB; exact decide_eq_true_iff
theorem lexB_no {p q : Int × Int} : lexB p q = false ↔ ¬ (p.1 < q.1 ∨ p.1 = q.1 ∧ p.2 < q.2) := by unfold lexB; exact decide_eq_false_iff_not

theorem lexB_trans {p q r : Int × Int} (h : lexB p q = true) (h' : lexB q r = true) : lexB p r = true := by
  rw [lexB_iff] at *
  omega

theorem src_count_le (v : Int) : ∀ (l : List Int) (j : Int), (src j l).countP (fun p => decide (p.1 ≤ v)) = l.countP (fun a => decide (a ≤ v))
  | [], _ => rfl
  | a :: l, j => by rw [src, List.countP_cons, List.countP_cons, src_count_le v l]

theorem src_count_lt (v : Int) : ∀ (l : List Int) (j : Int), (src j l).countP (fun p => decide (p.1 < v)) = l.countP (fun a => decide (a < v))
  | [], _ => rfl
  | a :: l, j => by rw [src, List.countP_cons, List.countP_cons, src_count_lt v l]

/-- How many stand ahead of the i-th: the lower ones, and the equal ones of lower numbers. -/
theorem src_count_lex (v : Int) : ∀ (l : List Int) (j : Int) (i : Nat), (src j l).countP (fun p => lexB p (v, j + i)) = l.countP (fun a => decide (a < v)) + (l.take i).countP (fun a => decide (a = v))
  | [], _, i => by simp [src]
  | a :: l, j, 0 => by
    have h0 : ∀ (l : List Int) (j k : Int), k ≤ j → (src j l).countP (fun p => lexB p (v, k)) = l.countP (fun a => decide (a < v)) := by
      intro l
      induction l with
      | nil => intro j k _; rfl
      | cons b l ih =>
        intro j k h
        rw [src, List.countP_cons, List.countP_cons, ih (j + 1) k (by omega)]
        congr 1
        have : (lexB (b, j) (v, k)) = decide (b < v) := by
          unfold lexB
          exact decide_eq_decide.2 (by simp only []; omega)
        rw [this]
    rw [h0 (a :: l) j _ (by simp)]
    simp
  | a :: l, j, i + 1 => by
    have ih := src_count_lex v l (j + 1) i
    have e : j + ((i + 1 : Nat) : Int) = j + 1 + i := by omega
    rw [e, src, List.countP_cons, ih, List.countP_cons, List.take_succ_cons, List.countP_cons]
    have : (lexB (a, j) (v, j + 1 + i)) = (decide (a < v) || decide (a = v)) := by
      unfold lexB
      rw [← Bool.decide_or]
      exact decide_eq_decide.2 (by simp only []; omega)
    rw [this]
    by_cases h1 : a < v
    · have h2 : ¬ a = v := by omega
      simp [h1, h2]; omega
    · by_cases h2 : a = v
      · simp [h2]; omega
      · simp [h1, h2]

theorem count_cut {α : Type} {p : α → Bool} {L : List α} {i : Nat} (hi : i ≤ L.length) (h1 : ∀ y ∈ L.take i, p y = true) (h2 : ∀ y ∈ L.drop i, p y = false) : i = L.countP p := by
  conv => rhs; rw [← List.take_append_drop i L]
  rw [List.countP_append, List.countP_eq_length.2 h1, List.countP_eq_zero.2 (fun y hy => by rw [h2 y hy]; decide), List.length_take]
  omega

/-- An entry, as a number and its row's number. -/
def pairE (e : En) : Int × Int := (numOf e, e.id)

/-- An index of numbers. -/
structure Nums (ls : List Int) (L : List En) : Prop where
  num : ∀ e ∈ L, e.kv = [numV (numOf e)]
  perm : (L.map pairE).Perm (src 1 ls)
  sorted : L.Pairwise (fun a b => lexB (pairE a) (pairE b) = true)

theorem Nums.nil : Nums [] [] := ⟨fun _ h => (by cases h), List.Perm.refl _, List.Pairwise.nil⟩

theorem Nums.length {ls : List Int} {L : List En} (h : Nums ls L) : L.length = ls.length := by
  have h1 := h.perm.length_eq
  rw [List.length_map] at h1
  have : ∀ (l : List Int) (j : Int), (src j l).length = l.length := by
    intro l
    induction l with
    | nil => intro j; rfl
    | cons a l ih => intro j; simp [src, ih]
  rw [h1, this]

theorem cmpI_lt {m v : Int} : cmpI m v < 0 ↔ m < v := by unfold cmpI; split <;> (try split) <;> omega
theorem cmpI_pos {m v : Int} : 0 < cmpI m v ↔ v < m := by unfold cmpI; split <;> (try split) <;> omega
theorem cmpI_zero {m v : Int} : cmpI m v = 0 ↔ m = v := by unfold cmpI; split <;> (try split) <;> omega

theorem rank_num {e : En} (he : e.kv = [numV (numOf e)]) (v rid : Int) : rankC 2 [numV v] rid e < 0 ↔ lexB (pairE e) (v, rid) = true := by
  unfold rankC
  rw [he, cmpR_two, lexB_iff]
  show _ ↔ numOf e < v ∨ numOf e = v ∧ e.id < rid
  generalize (numOf e) = m at he ⊢
  clear he
  have h1 := @cmpI_lt m v; have h2 := @cmpI_pos m v; have h3 := @cmpI_zero m v; have h4 := @cmpI_lt e.id rid
  by_cases h0 : cmpI m v = 0
  · rw [if_neg (by omega)]; omega
  · rw [if_pos h0]; omega

theorem rank_num' {e : En} (he : e.kv = [numV (numOf e)]) (v rid : Int) : 0 ≤ rankC 2 [numV v] rid e ↔ lexB (pairE e) (v, rid) = false := by
  have := rank_num he v rid
  cases h : lexB (pairE e) (v, rid) <;> simp [h] at this ⊢ <;> omega

theorem Nums.rank_mono {ls : List Int} {L : List En} (h : Nums ls L) (v rid : Int) : L.Pairwise (fun x y => 0 ≤ rankC 2 [numV v] rid x → 0 ≤ rankC 2 [numV v] rid y) := by
  refine List.pairwise_iff_forall_sublist.2 (fun {a b} hs => ?_)
  have hab := List.pairwise_iff_forall_sublist.1 h.sorted hs
  have ha := h.num a (hs.subset (by simp)); have hb := h.num b (hs.subset (by simp))
  rw [rank_num' ha, rank_num' hb]
  intro h1
  cases h2 : lexB (pairE b) (v, rid) with
  | false => rfl
  | true => rw [lexB_trans hab h2] at h1; cases h1

theorem Nums.cmp_mono {ls : List Int} {L : List En} (h : Nums ls L) (v : Int) : L.Pairwise (fun x y => 0 ≤ cmpR 2 x.kv [numV v] → 0 ≤ cmpR 2 y.kv [numV v]) ∧ L.Pairwise (fun x y => 0 < cmpR 2 x.kv [numV v] → 0 < cmpR 2 y.kv [numV v]) := by
  have key : ∀ {a b : En}, [a, b].Sublist L → numOf a ≤ numOf b ∧ cmpR 2 a.kv [numV v] = cmpI (numOf a) v ∧ cmpR 2 b.kv [numV v] = cmpI (numOf b) v := fun {a b} hs => by
    have hab := List.pairwise_iff_forall_sublist.1 h.sorted hs
    have ha := h.num a (hs.subset (by simp)); have hb := h.num b (hs.subset (by simp))
    rw [lexB_iff] at hab
    have h0 : numOf a < numOf b ∨ numOf a = numOf b ∧ a.id < b.id := hab
    refine ⟨by omega, by conv => lhs; rw [ha, cmpR_two], by conv => lhs; rw [hb, cmpR_two]⟩
  constructor <;> refine List.pairwise_iff_forall_sublist.2 (fun {a b} hs => ?_) <;> obtain ⟨h1, h2, h3⟩ := key hs <;> rw [h2, h3]
  · have g1 := @cmpI_lt (numOf a) v; have g2 := @cmpI_lt (numOf b) v; omega
  · have g1 := @cmpI_pos (numOf a) v; have g2 := @cmpI_pos (numOf b) v; omega

/-- No row of the next number is there. -/
theorem Nums.fresh {ls : List Int} {L : List En} (h : Nums ls L) {y : En} (hy : y ∈ L) : 1 ≤ y.id ∧ y.id ≤ ls.length := by
  have h1 : pairE y ∈ src 1 ls := h.perm.subset (List.mem_map_of_mem hy)
  have := src_bounds ls 1 _ h1
  simp only [pairE] at this
  omega

theorem Nums.insert {ls : List Int} {L : List En} (h : Nums ls L) {v rid : Int} {e : En} {i : Nat} (hr : rid = ls.length + 1) (he : e.kv = [numV v]) (hid : e.id = rid) (h1 : ∀ y ∈ L.take i, rankC 2 [numV v] rid y < 0) (h2 : ∀ y ∈ L.drop i, 0 ≤ rankC 2 [numV v] rid y) : Nums (ls ++ [v]) (L.take i ++ e :: L.drop i) := by
  have hn := numOf_eq he
  have hpe : pairE e = (v, rid) := by simp [pairE, hn, hid]
  have hmem : ∀ y ∈ L.take i ++ e :: L.drop i, y ∈ L ∨ y = e := fun y hy => by
    rcases List.mem_append.1 hy with h | h
    · exact Or.inl (List.mem_of_mem_take h)
    · rcases List.mem_cons.1 h with h | h
      · exact Or.inr h
      · exact Or.inl (List.mem_of_mem_drop h)
  refine ⟨fun y hy => ?_, ?_, ?_⟩
  · rcases hmem y hy with h' | rfl
    · exact h.num y h'
    · rw [hn]; exact he
  · rw [src_snoc]
    have p1 : (L.take i ++ e :: L.drop i).Perm (L ++ [e]) := by
      refine List.perm_middle.trans ?_
      rw [List.take_append_drop]
      exact (List.perm_append_singleton e L).symm
    refine (p1.map pairE).trans ?_
    rw [List.map_append, List.map_singleton, hpe]
    have er : rid = 1 + (ls.length : Int) := by omega
    rw [er]
    exact h.perm.append_right _
  · have hs := h.sorted
    rw [← List.take_append_drop i L, List.pairwise_append] at hs
    obtain ⟨s1, s2, s3⟩ := hs
    rw [List.pairwise_append, List.pairwise_cons]
    refine ⟨s1, ⟨fun y hy => ?_, s2⟩, fun a ha b hb => ?_⟩
    · have hyL := List.mem_of_mem_drop hy
      have g := (rank_num' (h.num y hyL) v rid).1 (h2 y hy)
      have hb := h.fresh hyL
      rw [hpe]
      rw [lexB_no] at g
      rw [lexB_iff]
      have g' : ¬ (numOf y < v ∨ numOf y = v ∧ y.id < rid) := g
      show v < numOf y ∨ v = numOf y ∧ rid < y.id
      omega
    · rcases List.mem_cons.1 hb with rfl | hb
      · rw [hpe]
        exact (rank_num (h.num a (List.mem_of_mem_take ha)) v rid).1 (h1 a ha)
      · exact s3 a ha b hb

theorem Nums.count {ls : List Int} {L : List En} (h : Nums ls L) (p : Int × Int → Bool) : L.countP (fun e => p (pairE e)) = (src 1 ls).countP p := by
  rw [← h.perm.countP_eq, List.countP_map]
  rfl

/-- Where a number of the next row goes. -/
theorem Nums.place {ls : List Int} {L : List En} (h : Nums ls L) {v rid : Int} {i : Nat} (hr : rid = ls.length + 1) (hi : i ≤ L.length) (h1 : ∀ y ∈ L.take i, rankC 2 [numV v] rid y < 0) (h2 : ∀ y ∈ L.drop i, 0 ≤ rankC 2 [numV v] rid y) : i = ls.countP (fun a => decide (a ≤ v)) := by
  have e1 : i = L.countP (fun e => decide ((pairE e).1 ≤ v)) := count_cut hi
    (fun y hy => by
      have := (rank_num (h.num y (List.mem_of_mem_take hy)) v rid).1 (h1 y hy)
      rw [lexB_iff] at this
      simp only [decide_eq_true_eq]
      omega)
    (fun y hy => by
      have g := (rank_num' (h.num y (List.mem_of_mem_drop hy)) v rid).1 (h2 y hy)
      have hb := h.fresh (List.mem_of_mem_drop hy)
      rw [lexB_no] at g
      have g' : ¬ (numOf y < v ∨ numOf y = v ∧ y.id < rid) := g
      simp only [decide_eq_false_iff_not]
      show ¬ numOf y ≤ v
      omega)
  have e2 := h.count (fun p => decide (p.1 ≤ v))
  rw [e1, e2, src_count_le]

theorem Nums.cmp {ls : List Int} {L : List En} (h : Nums ls L) (v : Int) {y : En} (hy : y ∈ L) : cmpR 2 y.kv [numV v] = cmpI (pairE y).1 v := by
  rw [h.num y hy, cmpR_two]
  rfl

/-- Where a number's rows begin. -/
theorem Nums.from_ {ls : List Int} {L : List En} (h : Nums ls L) {v : Int} {i : Nat} (hi : i ≤ L.length) (h1 : ∀ y ∈ L.take i, cmpR 2 y.kv [numV v] < 0) (h2 : ∀ y ∈ L.drop i, 0 ≤ cmpR 2 y.kv [numV v]) : i = ls.countP (fun a => decide (a < v)) := by
  have e1 : i = L.countP (fun e => decide ((pairE e).1 < v)) := count_cut hi
    (fun y hy => by
      have g := h1 y hy
      rw [h.cmp v (List.mem_of_mem_take hy), cmpI_lt] at g
      simpa using g)
    (fun y hy => by
      have g := h2 y hy
      rw [h.cmp v (List.mem_of_mem_drop hy)] at g
      have g1 := @cmpI_lt (pairE y).1 v
      simp only [decide_eq_false_iff_not]
      omega)
  have e2 := h.count (fun p => decide (p.1 < v))
  rw [e1, e2, src_count_lt]

/-- Where those behind a number's rows begin. -/
theorem Nums.to_ {ls : List Int} {L : List En} (h : Nums ls L) {v : Int} {i : Nat} (hi : i ≤ L.length) (h1 : ∀ y ∈ L.take i, cmpR 2 y.kv [numV v] ≤ 0) (h2 : ∀ y ∈ L.drop i, 0 < cmpR 2 y.kv [numV v]) : i = ls.countP (fun a => decide (a < v)) + ls.countP (fun a => decide (a = v)) := by
  have e1 : i = L.countP (fun e => decide ((pairE e).1 ≤ v)) := count_cut hi
    (fun y hy => by
      have g := h1 y hy
      rw [h.cmp v (List.mem_of_mem_take hy)] at g
      have g1 := @cmpI_pos (pairE y).1 v
      simp only [decide_eq_true_eq]
      omega)
    (fun y hy => by
      have g := h2 y hy
      rw [h.cmp v (List.mem_of_mem_drop hy), cmpI_pos] at g
      simp only [decide_eq_false_iff_not]
      omega)
  have e2 := h.count (fun p => decide (p.1 ≤ v))
  rw [e1, e2, src_count_le]
  clear e1 e2 h1 h2 hi h
  induction ls with
  | nil => rfl
  | cons a l ih =>
    rw [List.countP_cons, List.countP_cons, List.countP_cons, ih]
    by_cases g1 : a < v
    · have g2 : ¬ a = v := by omega
      have g3 : a ≤ v := by omega
      simp [g1, g2, g3]; omega
    · by_cases g2 : a = v
      · simp [g2]; omega
      · have g3 : ¬ a ≤ v := by omega
        simp [g1, g2, g3]

/-- The rank of the j-th. -/
theorem Nums.rank {ls : List Int} {L : List En} (h : Nums ls L) {j i : Nat} {v rid : Int} (hj : j < ls.length) (hv : ls[j] = v) (hr : rid = j + 1) (hi : i ≤ L.length) (h1 : ∀ y ∈ L.take i, rankC 2 [numV v] rid y < 0) (h2 : ∀ y ∈ L.drop i, 0 ≤ rankC 2 [numV v] rid y) :
    i = ls.countP (fun a => decide (a < v)) + (ls.take j).countP (fun a => decide (a = v)) ∧ ∃ y, L[i]? = some y ∧ y.id = rid ∧ cmpR 2 y.kv [numV v] = 0 := by
  have er : rid = 1 + (j : Int) := by omega
  constructor
  · have e1 : i = L.countP (fun e => lexB (pairE e) (v, rid)) := count_cut hi
      (fun y hy => (rank_num (h.num y (List.mem_of_mem_take hy)) v rid).1 (h1 y hy))
      (fun y hy => (rank_num' (h.num y (List.mem_of_mem_drop hy)) v rid).1 (h2 y hy))
    have e2 := h.count (fun p => lexB p (v, rid))
    rw [e1, e2, er, src_count_lex]
  · have hm : (v, rid) ∈ L.map pairE := h.perm.symm.subset (by rw [← hv, er]; exact src_mem ls 1 j hj)
    obtain ⟨y, hy, hp⟩ := List.mem_map.1 hm
    have hnl : lexB (pairE y) (v, rid) = false := by rw [hp]; simp [lexB]
    have hyd : y ∈ L.drop i := by
      rw [← List.take_append_drop i L] at hy
      rcases List.mem_append.1 hy with g | g
      · have := (rank_num (h.num y (List.mem_of_mem_take g)) v rid).1 (h1 y g)
        rw [hnl] at this; cases this
      · exact g
    have hs := h.sorted
    rw [← List.take_append_drop i L, List.pairwise_append] at hs
    cases hd : L.drop i with
    | nil => rw [hd] at hyd; cases hyd
    | cons z zs =>
      have hz : L[i]? = some z := by
        have := List.head?_drop (l := L) (i := i)
        rw [hd] at this
        simpa using this.symm
      have hzL : z ∈ L := List.mem_of_getElem? hz
      have hzy : z = y := by
        rw [hd] at hyd
        rcases List.mem_cons.1 hyd with rfl | hyz
        · rfl
        · have s2 := hs.2.1
          rw [hd, List.pairwise_cons] at s2
          have g1 := s2.1 y hyz
          rw [hp] at g1
          have g2 := (rank_num' (h.num z hzL) v rid).1 (h2 z (by rw [hd]; simp))
          rw [g1] at g2; cases g2
      subst hzy
      refine ⟨z, hz, ?_, ?_⟩
      · have := congrArg Prod.snd hp; exact this
      · rw [h.cmp v hzL, hp]
        simp [cmpI]

end Go.Proofs.YtgfmemggfbgjeaaGreatDoor
