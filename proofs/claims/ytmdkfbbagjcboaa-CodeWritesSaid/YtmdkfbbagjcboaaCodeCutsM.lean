/-
  CodeCuts, plain: bytes that are cut off are a row's just where a value ends. No program in sight. Conditions: none.
-/
import Derived.Test.YtmdkfbbagjcboaaCodeMath
namespace Go.Proofs.Ytmdkfbbagjcboaa
open Go.RowKit

theorem tdec_app (s : List UInt8) : ∀ (l : List UInt8) (a t : List UInt8), tdec l = some (a, t) → tdec (l ++ s) = some (a, t ++ s) := by
  intro l
  fun_induction tdec l with
  | case1 => intro a t h; cases h
  | case2 => intro a t h; cases h
  | case3 r => intro a t h; cases h; rfl
  | case4 r h1 ih =>
    intro a t h
    simp only [Option.map_eq_some_iff] at h
    obtain ⟨p, hp, he⟩ := h
    cases he
    have := ih _ _ hp
    show tdec (0 :: 255 :: (r ++ s)) = _
    rw [tdec, if_pos rfl, if_neg h1, if_pos rfl, this]
    rfl
  | case5 => intro a t h; cases h
  | case6 b c r h1 ih =>
    intro a t h
    simp only [Option.map_eq_some_iff] at h
    obtain ⟨p, hp, he⟩ := h
    cases he
    have := ih _ _ hp
    rw [List.cons_append, tdec_ne _ _ h1, this]
    rfl

theorem vdec_2 (r : List UInt8) : vdec (2 :: r) = match r with | [] => none | b :: r => if b = 0 ∨ b = 1 then some (⟨2, b.toNat, ⟨#[]⟩, 0⟩, r) else none := rfl

theorem vdec_app {l t : List UInt8} {x : V} (s : List UInt8) (h : vdec l = some (x, t)) : vdec (l ++ s) = some (x, t ++ s) := by
  cases l with
  | nil => cases h
  | cons k r =>
    rw [List.cons_append]
    by_cases k1 : k = 1
    · subst k1
      rw [vdec_1] at h ⊢
      split at h
      · cases h
      · cases h
        rename_i hl
        rw [if_neg (by simp; omega), List.take_append_of_le_length (by omega), List.drop_append_of_le_length (by omega)]
    · by_cases k2 : k = 2
      · subst k2
        rw [vdec_2] at h ⊢
        cases r with
        | nil => cases h
        | cons b r =>
          simp only [List.cons_append] at h ⊢
          split at h
          · cases h; rename_i hb; rw [if_pos hb]
          · cases h
      · by_cases k5 : k = 5
        · subst k5
          rw [vdec_5] at h ⊢
          split at h
          · cases h
          · cases h
            rename_i hl
            rw [if_neg (by simp; omega), List.take_append_of_le_length (by omega), List.drop_append_of_le_length (by omega)]
        · by_cases k3 : k = 3
          · subst k3
            rw [vdec_3] at h ⊢
            cases ht : tdec r with
            | none => rw [ht] at h; cases h
            | some p =>
              rw [ht] at h
              rw [tdec_app s r p.1 p.2 ht]
              simp only at h ⊢
              split at h
              · cases h; rename_i hp; rw [if_pos hp]
              · cases h
          · by_cases k4 : k = 4
            · subst k4
              rw [vdec_4] at h ⊢
              cases ht : tdec r with
              | none => rw [ht] at h; cases h
              | some p =>
                rw [ht] at h
                rw [tdec_app s r p.1 p.2 ht]
                simp only at h ⊢
                split at h
                · cases h; rename_i hp; rw [if_pos hp]
                · cases h
            · exfalso
              have : vdec (k :: r) = none := by simp [vdec, k1, k2, k3, k4, k5]
              rw [this] at h
              cases h

/-- A value's bytes that are cut off are none. -/
theorem vdec_cut {x : V} (hx : Kind x) {n : Nat} (h1 : n < (encV x).length) : vdec ((encV x).take n) = none := by
  cases h : vdec ((encV x).take n) with
  | none => rfl
  | some p =>
    exfalso
    have h2 := vdec_app ((encV x).drop n) h
    rw [List.take_append_drop] at h2
    have h3 := vdec_enc hx []
    rw [List.append_nil, h2] at h3
    simp only [Option.some.injEq, Prod.mk.injEq, List.append_eq_nil_iff] at h3
    have := congrArg List.length h3.2.2
    rw [List.length_drop, List.length_nil] at this
    omega

/-- Does a value end there? -/
def endsAt : List V → Nat → Bool
  | [], n => n == 0
  | x :: L, n => n == 0 || (decide ((encV x).length ≤ n) && endsAt L (n - (encV x).length))

theorem rows_cut : ∀ (L : List V) (n : Nat), (∀ x ∈ L, Kind x) → n ≤ (encL L).length → (rows ((encL L).take n)).isSome = endsAt L n
  | [], n, _, h => by
    have : n = 0 := by simpa [encL] using h
    subst this
    rfl
  | x :: L, n, hk, h => by
    have e : encL (x :: L) = encV x ++ encL L := rfl
    rw [e] at h ⊢
    rw [List.length_append] at h
    unfold endsAt
    by_cases h0 : n = 0
    · subst h0; rfl
    · have hz : (n == 0) = false := by simpa using h0
      rw [hz, Bool.false_or]
      by_cases hl : (encV x).length ≤ n
      · rw [decide_eq_true hl, Bool.true_and, ← rows_cut L _ (fun y hy => hk y (by simp [hy])) (by omega), List.take_append, List.take_of_length_le hl, rows_some (vdec_enc (hk x (by simp)) _)]
        simp
      · rw [decide_eq_false hl, Bool.false_and, List.take_append_of_le_length (by omega), rows_none _ (vdec_cut (hk x (by simp)) (by omega))]
        · rfl
        · intro hn
          have := congrArg List.length hn
          rw [List.length_take, List.length_nil] at this
          omega

/-- As the law's loop finds it. -/
def whole (L : List V) (n j : Nat) : Bool := (List.range (j + 1)).any fun i => (encL (L.take i)).length == n

theorem whole_zero (L : List V) (n : Nat) : whole L n 0 = (n == 0) := by
  unfold whole
  simp [encL]
  exact Bool.eq_iff_iff.2 (by simp; omega)

theorem whole_succ (L : List V) (n j : Nat) : whole L n (j + 1) = (whole L n j || (encL (L.take (j + 1))).length == n) := by
  unfold whole
  rw [List.range_succ, List.any_append]
  simp

theorem endsAt_iff : ∀ (L : List V) (n : Nat), endsAt L n = true ↔ ∃ i, i ≤ L.length ∧ (encL (L.take i)).length = n
  | [], n => by
    simp only [endsAt, beq_iff_eq]
    constructor
    · rintro rfl; exact ⟨0, Nat.le_refl _, rfl⟩
    · rintro ⟨i, _, rfl⟩; simp [encL]
  | x :: L, n => by
    simp only [endsAt, Bool.or_eq_true, beq_iff_eq, Bool.and_eq_true, decide_eq_true_eq, endsAt_iff L]
    constructor
    · rintro (rfl | ⟨h1, i, hi, h2⟩)
      · exact ⟨0, Nat.zero_le _, rfl⟩
      · refine ⟨i + 1, by simp; omega, ?_⟩
        show (encV x ++ encL (L.take i)).length = n
        rw [List.length_append, h2]
        omega
    · rintro ⟨i, hi, h⟩
      cases i with
      | zero => exact Or.inl h.symm
      | succ i =>
        right
        have e : (encV x ++ encL (L.take i)).length = n := h
        rw [List.length_append] at e
        exact ⟨by omega, i, by simpa using hi, by omega⟩

theorem whole_all (L : List V) (n : Nat) : whole L n L.length = endsAt L n := by
  rw [Bool.eq_iff_iff, endsAt_iff]
  unfold whole
  simp only [List.any_eq_true, List.mem_range, beq_iff_eq]
  constructor
  · rintro ⟨i, hi, h⟩; exact ⟨i, by omega, h⟩
  · rintro ⟨i, hi, h⟩; exact ⟨i, by omega, h⟩

end Go.Proofs.Ytmdkfbbagjcboaa
