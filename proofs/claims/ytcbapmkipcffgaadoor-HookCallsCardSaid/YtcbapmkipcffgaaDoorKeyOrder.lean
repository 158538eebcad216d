/-
  key.Order: what it tells; it is an order. Conditions: values that a Go value can be.
-/
import Derived.Test.YtcbapmkipcffgaaDoorKeyCmp
namespace Go.Proofs.YtcbapmkipcffgaaDoor
open Go.RowKit Go.Extern.Stop Go.Stop Go.Extern Go.Lib
set_option maxRecDepth 1000000

/-- A comparison that is an order. -/
structure Ord3 {α : Type} (c : α → α → Int) : Prop where
  anti : ∀ x y, c x y = - c y x
  trans : ∀ x y z, c x y ≤ 0 → c y z ≤ 0 → c x z ≤ 0

theorem Ord3.zero {α : Type} {c : α → α → Int} (h : Ord3 c) {x y z : α} (h1 : c x y ≤ 0) (h2 : c y z ≤ 0) (h3 : c x z = 0) : c x y = 0 ∧ c y z = 0 := by
  have a1 := h.anti x z
  have h4 : c z y ≤ 0 := h.trans z x y (by omega) h1
  have a2 := h.anti y z
  have h5 : c y x ≤ 0 := h.trans y z x h2 (by omega)
  have a3 := h.anti x y
  omega

theorem Ord3.refl {α : Type} {c : α → α → Int} (h : Ord3 c) (x : α) : c x x = 0 := by
  have := h.anti x x
  omega

theorem Ord3.lex {α : Type} {c d : α → α → Int} (hc : Ord3 c) (hd : Ord3 d) : Ord3 (fun x y => if c x y ≠ 0 then c x y else d x y) := by
  refine ⟨fun x y => ?_, fun x y z h1 h2 => ?_⟩
  · have a1 := hc.anti x y
    have a2 := hd.anti x y
    by_cases h : c x y = 0
    · have h' : c y x = 0 := by omega
      simp only [h, h', ne_eq, not_true_eq_false, if_false]
      exact a2
    · have h' : c y x ≠ 0 := by omega
      simp only [h, h', ne_eq, not_false_eq_true, if_true]
      exact a1
  · have e1 : c x y ≤ 0 := by
      by_cases h : c x y = 0
      · omega
      · rw [if_pos h] at h1; exact h1
    have e2 : c y z ≤ 0 := by
      by_cases h : c y z = 0
      · omega
      · rw [if_pos h] at h2; exact h2
    by_cases h : c x z = 0
    · obtain ⟨z1, z2⟩ := hc.zero e1 e2 h
      rw [if_neg (by simp [z1])] at h1
      rw [if_neg (by simp [z2])] at h2
      rw [if_neg (by simp [h])]
      exact hd.trans x y z h1 h2
    · rw [if_pos h]
      exact hc.trans x y z e1 e2

theorem Ord3.on {α β : Type} {c : β → β → Int} (h : Ord3 c) (f : α → β) : Ord3 (fun x y => c (f x) (f y)) :=
  ⟨fun _ _ => h.anti _ _, fun _ _ _ => h.trans _ _ _⟩

theorem cmpI_ord : Ord3 cmpI := by
  refine ⟨fun x y => ?_, fun x y z h1 h2 => ?_⟩
  · unfold cmpI
    split <;> split <;> (try split) <;> omega
  · unfold cmpI at *
    split at h1 <;> split at h2 <;> (try split at h1) <;> (try split at h2) <;> split <;> (try split) <;> omega

/-- Rows held against one another, one after the other. -/
def lexC {α : Type} (c : α → α → Int) : List α → List α → Int
  | [], [] => 0
  | [], _ :: _ => -1
  | _ :: _, [] => 1
  | x :: a, y :: b => if c x y ≠ 0 then c x y else lexC c a b

theorem lexC_anti {α : Type} {c : α → α → Int} (h : Ord3 c) : ∀ a b, lexC c a b = - lexC c b a
  | [], [] => rfl
  | [], _ :: _ => rfl
  | _ :: _, [] => rfl
  | x :: a, y :: b => by
    have ih := lexC_anti h a b
    have a1 := h.anti x y
    unfold lexC
    by_cases hz : c x y = 0
    · rw [if_neg (by simp [hz]), if_neg (by simp; omega)]
      exact ih
    · rw [if_pos hz, if_pos (by omega)]
      exact a1

theorem lexC_trans {α : Type} {c : α → α → Int} (h : Ord3 c) : ∀ x y z, lexC c x y ≤ 0 → lexC c y z ≤ 0 → lexC c x z ≤ 0
  | [], _, [], _, _ => by simp [lexC]
  | [], _, _ :: _, _, _ => by simp [lexC]
  | _ :: _, [], _, h1, _ => by simp [lexC] at h1
  | _ :: _, _ :: _, [], _, h2 => by simp [lexC] at h2
  | x :: a, y :: b, z :: d, h1, h2 => by
    have ih := lexC_trans h a b d
    unfold lexC at h1 h2 ⊢
    have e1 : c x y ≤ 0 := by
      by_cases h : c x y = 0
      · omega
      · rw [if_pos h] at h1; exact h1
    have e2 : c y z ≤ 0 := by
      by_cases h : c y z = 0
      · omega
      · rw [if_pos h] at h2; exact h2
    by_cases hz : c x z = 0
    · obtain ⟨z1, z2⟩ := h.zero e1 e2 hz
      rw [if_neg (by simp [z1])] at h1
      rw [if_neg (by simp [z2])] at h2
      rw [if_neg (by simp [hz])]
      exact ih h1 h2
    · rw [if_pos hz]
      exact h.trans x y z e1 e2

theorem lexC_ord {α : Type} {c : α → α → Int} (h : Ord3 c) : Ord3 (lexC c) := ⟨lexC_anti h, lexC_trans h⟩

theorem compareBytes_lex : ∀ a b, Lib.compareBytes a b = lexC (fun x y : UInt8 => cmpI x.toNat y.toNat) a b
  | [], [] => rfl
  | [], _ :: _ => rfl
  | _ :: _, [] => rfl
  | x :: a, y :: b => by
    have ih := compareBytes_lex a b
    unfold Lib.compareBytes lexC
    rw [ih]
    simp only [UInt8.lt_iff_toNat_lt]
    unfold cmpI
    by_cases h1 : x.toNat < y.toNat
    · have h1' : (x.toNat : Int) < y.toNat := by omega
      simp [h1, h1']
    · have h1' : ¬ (x.toNat : Int) < y.toNat := by omega
      by_cases h2 : y.toNat < x.toNat
      · have h2' : (y.toNat : Int) < x.toNat := by omega
        simp [h1, h1', h2, h2']
      · have h2' : ¬ (y.toNat : Int) < x.toNat := by omega
        simp [h1, h1', h2, h2']

theorem compareBytes_ord : Ord3 Lib.compareBytes := by
  have h := lexC_ord (cmpI_ord.on (fun x : UInt8 => (x.toNat : Int)))
  rw [show Lib.compareBytes = lexC (fun x y : UInt8 => cmpI x.toNat y.toNat) from funext fun a => funext fun b => compareBytes_lex a b]
  exact h

theorem cmpV_ord : Ord3 cmpV := by
  have h := (cmpI_ord.on V.k).lex ((cmpI_ord.on V.i).lex ((compareBytes_ord.on (fun x : V => x.s.data.toList)).lex (cmpI_ord.on (fun x : V => (ord x.f : Int)))))
  rw [show cmpV = _ from funext fun x => funext fun y => (cmpV_or x y).symm]
  have e : (fun x y : V => orI [cmpI x.k y.k, cmpI x.i y.i, Lib.compareBytes x.s.data.toList y.s.data.toList, cmpI (ord x.f) (ord y.f)]) =
      (fun x y => if cmpI x.k y.k ≠ 0 then cmpI x.k y.k else if cmpI x.i y.i ≠ 0 then cmpI x.i y.i else if Lib.compareBytes x.s.data.toList y.s.data.toList ≠ 0 then Lib.compareBytes x.s.data.toList y.s.data.toList else cmpI (ord x.f) (ord y.f)) := by
    funext x y
    simp only [orI]
    by_cases h4 : cmpI (ord x.f : Int) (ord y.f : Int) = 0
    · simp [h4]
    · simp [h4]
  rw [e]
  exact h

theorem rowsV_lex : ∀ A B, rowsV A B = lexC cmpV A B
  | [], [] => rfl
  | [], _ :: _ => rfl
  | _ :: _, [] => rfl
  | x :: A, y :: B => by unfold rowsV lexC; rw [rowsV_lex A B]

theorem rowsV_ord : Ord3 rowsV := by
  rw [show rowsV = lexC cmpV from funext fun a => funext fun b => rowsV_lex a b]
  exact lexC_ord cmpV_ord

theorem rowsV_zero : ∀ {A B}, rowsV A B = 0 → A.length = B.length
  | [], [], _ => rfl
  | [], _ :: _, h => by simp [rowsV] at h
  | _ :: _, [], h => by simp [rowsV] at h
  | x :: A, y :: B, h => by
    unfold rowsV at h
    by_cases hz : cmpV x y = 0
    · rw [if_neg (by simp [hz])] at h
      simp [rowsV_zero h]
    · rw [if_pos hz] at h
      exact absurd h hz

/-- Which of two entries stands ahead. -/
def entI (a b : List V × Int) : Int := if rowsV a.1 b.1 ≠ 0 then rowsV a.1 b.1 else cmpI a.2 b.2

theorem entI_ord : Ord3 entI := (rowsV_ord.on Prod.fst).lex (cmpI_ord.on Prod.snd)

theorem entI_or (a b : List V × Int) : orI [rowsV a.1 b.1, cmpI a.2 b.2] = entI a b := by
  simp only [orI, entI]
  by_cases h4 : cmpI a.2 b.2 = 0
  · simp [h4]
  · simp [h4]

theorem cmpI_range (m n : Int) : -1 ≤ cmpI m n ∧ cmpI m n ≤ 1 := by
  unfold cmpI
  split
  · omega
  · split <;> omega

theorem entI_range (a b : List V × Int) : -1 ≤ entI a b ∧ entI a b ≤ 1 := by
  unfold entI
  split
  · exact rowsV_range _ _
  · exact cmpI_range _ _

theorem cmpI_zero {m n : Int} (h : cmpI m n = 0) : m = n := by
  unfold cmpI at h
  split at h
  · omega
  · split at h <;> omega

theorem entI_zero {a b : List V × Int} (h : entI a b = 0) : rowsV a.1 b.1 = 0 ∧ a.2 = b.2 := by
  unfold entI at h
  by_cases hz : rowsV a.1 b.1 = 0
  · rw [if_neg (by simp [hz])] at h
    exact ⟨hz, cmpI_zero h⟩
  · rw [if_pos hz] at h
    exact absurd h hz

abbrev entV (vs : Value) (id : Int) : Value := .agg #[vs, .int .i64 id]
abbrev entObj (vs : Value) (id : Int) : Obj := .cells #[vs, .int .i64 id] 89

theorem ent_cells {w : World} {b : Nat} {vs : Value} {id : Int} (h : w.heap[b]? = some (entObj vs id)) : w.cell? ⟨b, 0, none⟩ = some vs ∧ w.cell? ⟨b, 1, none⟩ = some (.int .i64 id) := by
  simp [World.cell?, h]

theorem ent4 {w w' : World} {p q : Nat} {a b : Value} {i j : Int} (hx : w.heap[p]? = some (entObj a i)) (hy : w.heap[q]? = some (entObj b j)) (h : Same (fun _ => False) w w') :
    w'.cell? ⟨p, 0, none⟩ = some a ∧ w'.cell? ⟨p, 1, none⟩ = some (.int .i64 i) ∧ w'.cell? ⟨q, 0, none⟩ = some b ∧ w'.cell? ⟨q, 1, none⟩ = some (.int .i64 j) ∧ Same (fun _ => False) w w' := by
  obtain ⟨e0, e1⟩ := ent_cells (h.obj hx id)
  obtain ⟨f0, f1⟩ := ent_cells (h.obj hy id)
  exact ⟨e0, e1, f0, f1, h⟩

set_option maxHeartbeats 8000000 in
theorem korder_any {w : World} {v u : Value} {A B : List V} {ia ib : Int} (h : ReadV w v A) (g : ReadV w u B) (hok : ∀ x ∈ A, x.ok) (gok : ∀ x ∈ B, x.ok) (hn : A.length ≤ maxLen) (gn : B.length ≤ maxLen) :
    Calls Tryd.prog 40 #[entV v ia, entV u ib] w fun e w' => e = .returned (.int .i64 (entI (A, ia) (B, ib))) ∧ Same (fun _ => False) w w' := by
  obtain ⟨ao, cap, rfl⟩ := readV_len h
  obtain ⟨bo, dap, rfl⟩ := readV_len g
  have hs := ((Same.refl (fun _ => False) w).alloc (entObj (.slice ao A.length cap) ia)).alloc (entObj (.slice bo B.length dap) ib)
  have hX : ((w.alloc (entObj (.slice ao A.length cap) ia)).alloc (entObj (.slice bo B.length dap) ib)).heap[w.heap.size]? = some (entObj (.slice ao A.length cap) ia) := ((Same.refl (fun _ => False) (w.alloc (entObj (.slice ao A.length cap) ia))).alloc _).obj (heap_alloc_new w _) id
  have hY : ((w.alloc (entObj (.slice ao A.length cap) ia)).alloc (entObj (.slice bo B.length dap) ib)).heap[w.heap.size + 1]? = some (entObj (.slice bo B.length dap) ib) := by
    have h := heap_alloc_new (w.alloc (entObj (.slice ao A.length cap) ia)) (entObj (.slice bo B.length dap) ib)
    rwa [show (w.alloc (entObj (.slice ao A.length cap) ia)).heap.size = w.heap.size + 1 by simp] at h
  have HE := Lib.hid (entI_or (A, ia) (B, ib))
  have HR := Lib.hid (fun (w' : World) (h2 : Same (fun _ => False) w w') => vrows_any (h.same h2) (g.same h2) hok gok hn gn)
  have HS := Lib.hid hs; have HX := Lib.hid hX; have HY := Lib.hid hY
  clear h g hok gok hs hX hY
  go_enter Tryd.func40, Tryd.ntmps40
  go_upto_region 1 with fail
  generalize (w.alloc (entObj (.slice ao A.length cap) ia)).alloc (entObj (.slice bo B.length dap) ib) = W at *
  go_region_held3 (fun w' => w'.cell? ⟨w.heap.size, 0, none⟩ = some (.slice ao A.length cap) ∧ w'.cell? ⟨w.heap.size, 1, none⟩ = some (.int .i64 ia) ∧ w'.cell? ⟨w.heap.size + 1, 0, none⟩ = some (.slice bo B.length dap) ∧ w'.cell? ⟨w.heap.size + 1, 1, none⟩ = some (.int .i64 ib) ∧ Same (fun _ => False) W w')
    ((refine ent4 HX.out HY.out ?_; repeat (first | with_reducible assumption | exact Same.refl _ _ | refine Same.drew ?_ | refine Same.alloc ?_ _)))
    (first
      | (go_at_call 75; refine (HR.out _ (HS.out.drew)).mono ?_; rintro e w' ⟨rfl, hs'⟩; have hT : Same (fun _ => False) W w' := Same.trans ((Same.refl _ _).drew) hs' (fun _ _ h => h))
      | (go_at_call 76; refine (ccmp_i64 _ _ _).mono ?_; rintro e w2 ⟨rfl, rfl⟩)
      | (go_at_call 74; refine (or_two (heap_alloc_new _ _)).mono ?_; rintro e w2 ⟨rfl, rfl⟩))
  have HT := Lib.hid ((HS.out.trans hT (fun _ _ h => h)).alloc (pairObj (rowsV A B) (cmpI ia ib)))
  clear hT hs'
  go_wp2_with fail
  go_ret
  exact ⟨ret_i64 HE.out, HT.out⟩

end Go.Proofs.YtcbapmkipcffgaaDoor
