/-
  Package code, plain: bytes stand as the values do. No program in sight. Conditions: none.
-/
import Derived.Test.YtmdkfbbagjcboaaCodeGet
namespace Go.Proofs.Ytmdkfbbagjcboaa
open Go.RowKit

theorem less_cons (a b : UInt8) (x y : List UInt8) : Op.bytesLess (a :: x) (b :: y) = (decide (a < b) || (a == b && Op.bytesLess x y)) := rfl

theorem less_same (a : UInt8) (x y : List UInt8) : Op.bytesLess (a :: x) (a :: y) = Op.bytesLess x y := by
  rw [less_cons]
  have : ¬ a < a := UInt8.lt_irrefl a
  simp [this]

theorem less_prefix (p x y : List UInt8) : Op.bytesLess (p ++ x) (p ++ y) = Op.bytesLess x y := by
  induction p with
  | nil => rfl
  | cons a p ih => rw [List.cons_append, List.cons_append, less_same, ih]

theorem less_irrefl (x : List UInt8) : Op.bytesLess x x = false := by
  induction x with
  | nil => rfl
  | cons a x ih => rw [less_same, ih]

theorem beN_init (l : List UInt8) : ∀ n, l.foldl (fun n b => n * 256 + b.toNat) n = n * 256 ^ l.length + beN l := by
  induction l with
  | nil => intro n; simp [beN]
  | cons b l ih =>
    intro n
    have h1 := ih (n * 256 + b.toNat)
    have h2 := ih (0 * 256 + b.toNat)
    unfold beN
    rw [List.foldl_cons, List.foldl_cons, h1, h2, List.length_cons, Nat.pow_succ]
    simp only [Nat.zero_mul, Nat.zero_add, Nat.add_mul]
    rw [Nat.mul_assoc, Nat.mul_comm 256]
    omega

theorem beN_cons (b : UInt8) (l : List UInt8) : beN (b :: l) = b.toNat * 256 ^ l.length + beN l := by
  have := beN_init l (0 * 256 + b.toNat)
  simpa [beN] using this

theorem pair_lt {a b p x y : Nat} (hx : x < p) (hy : y < p) : (a * p + x < b * p + y ↔ a < b ∨ (a = b ∧ x < y)) ∧ (a * p + x = b * p + y ↔ a = b ∧ x = y) := by
  rcases Nat.lt_trichotomy a b with h | h | h
  · have : (a + 1) * p ≤ b * p := Nat.mul_le_mul_right _ h
    rw [Nat.add_mul] at this
    exact ⟨⟨fun _ => Or.inl h, fun _ => by omega⟩, ⟨fun _ => by omega, fun h2 => by omega⟩⟩
  · subst h
    exact ⟨⟨fun _ => Or.inr ⟨rfl, by omega⟩, fun _ => by omega⟩, ⟨fun _ => ⟨rfl, by omega⟩, fun h2 => by omega⟩⟩
  · have : (b + 1) * p ≤ a * p := Nat.mul_le_mul_right _ h
    rw [Nat.add_mul] at this
    exact ⟨⟨fun _ => by omega, fun h2 => by omega⟩, ⟨fun _ => by omega, fun h2 => by omega⟩⟩

/-- Numbers of so many bytes stand as these do, whatever stands behind them. -/
theorem less_num : ∀ (a b s t : List UInt8), a.length = b.length → Op.bytesLess (a ++ s) (b ++ t) = (decide (beN a < beN b) || (decide (beN a = beN b) && Op.bytesLess s t))
  | [], [], s, t, _ => by simp [beN]
  | [], _ :: _, _, _, h => by simp at h
  | _ :: _, [], _, _, h => by simp at h
  | x :: a, y :: b, s, t, h => by
    have hl : a.length = b.length := by simpa using h
    have ha := beN_lt a
    have hb := beN_lt b
    rw [← hl] at hb
    obtain ⟨e1, e2⟩ := pair_lt (a := x.toNat) (b := y.toNat) ha hb
    rw [List.cons_append, List.cons_append, less_cons, less_num a b s t hl, beN_cons, beN_cons, ← hl]
    rw [Bool.eq_iff_iff]
    simp only [Bool.or_eq_true, Bool.and_eq_true, decide_eq_true_eq, beq_iff_eq, e1, e2, UInt8.lt_iff_toNat_lt]
    rw [← UInt8.toNat_inj]
    constructor
    · rintro (h | ⟨h1, h2 | ⟨h2, h3⟩⟩)
      · exact Or.inl (Or.inl h)
      · exact Or.inl (Or.inr ⟨h1, h2⟩)
      · exact Or.inr ⟨⟨h1, h2⟩, h3⟩
    · rintro ((h | ⟨h1, h2⟩) | ⟨⟨h1, h2⟩, h3⟩)
      · exact Or.inl h
      · exact Or.inr ⟨h1, Or.inl h2⟩
      · exact Or.inr ⟨h1, Or.inr ⟨h2, h3⟩⟩

theorem byteAt_nat (n k : Nat) : (byteAt n k).toNat = n / 2 ^ (8 * k) % 256 := by unfold byteAt; rw [UInt8.toNat_ofNat']

theorem beN_be8 (n : Nat) (h : n < 18446744073709551616) : beN (be8 n) = n := by
  unfold be8 beN
  simp only [List.foldl_cons, List.foldl_nil, byteAt_nat]
  omega

theorem be8_len (n : Nat) : (be8 n).length = 8 := rfl

theorem less_be8 (m n : Nat) (hm : m < 18446744073709551616) (hn : n < 18446744073709551616) (s t : List UInt8) :
    Op.bytesLess (be8 m ++ s) (be8 n ++ t) = (decide (m < n) || (decide (m = n) && Op.bytesLess s t)) := by
  rw [less_num (be8 m) (be8 n) s t rfl, beN_be8 m hm, beN_be8 n hn]

theorem be8_inj (m n : Nat) (hm : m < 18446744073709551616) (hn : n < 18446744073709551616) (h : be8 m = be8 n) : m = n := by
  rw [← beN_be8 m hm, ← beN_be8 n hn, h]

/-- Texts stand as these do, whatever stands behind them. -/
theorem less_text : ∀ (a b s t : List UInt8), Op.bytesLess (esc a ++ (0 :: 1 :: s)) (esc b ++ (0 :: 1 :: t)) = (Op.bytesLess a b || (a == b && Op.bytesLess s t))
  | [], [], s, t => by
    simp only [esc, List.nil_append, less_same]
    simp [Op.bytesLess]
  | [], c :: b, s, t => by
    have h : Op.bytesLess [] (c :: b) = true := rfl
    rw [h, Bool.true_or]
    simp only [esc, List.nil_append]
    by_cases hc : c = 0
    · subst hc
      rw [if_pos rfl]
      rfl
    · rw [if_neg hc, List.cons_append, less_cons]
      have : (0 : UInt8) < c := by
        rw [UInt8.lt_iff_toNat_lt]
        have : c.toNat ≠ 0 := fun e => hc (UInt8.toNat_inj.1 e)
        show 0 < c.toNat
        omega
      simp [this]
  | c :: a, [], s, t => by
    have h : Op.bytesLess (c :: a) [] = false := rfl
    rw [h]
    simp only [esc, List.nil_append]
    by_cases hc : c = 0
    · subst hc
      rw [if_pos rfl]
      rfl
    · rw [if_neg hc, List.cons_append, less_cons]
      have : ¬ c < (0 : UInt8) := by
        rw [UInt8.lt_iff_toNat_lt]
        exact Nat.not_lt_zero _
      have hne : (c == (0 : UInt8)) = false := by simpa using hc
      rw [hne]
      simp [this]
  | c :: a, d :: b, s, t => by
    have ih := less_text a b s t
    simp only [esc]
    by_cases hc : c = 0
    · by_cases hd : d = 0
      · subst hc; subst hd
        rw [if_pos rfl, List.cons_append, List.cons_append, if_pos rfl, List.cons_append, List.cons_append, less_same, less_same, ih, less_same]
        simp
      · subst hc
        rw [if_pos rfl, if_neg hd, List.cons_append, List.cons_append, List.cons_append, less_cons, less_cons]
        have : (0 : UInt8) < d := by
          rw [UInt8.lt_iff_toNat_lt]
          have : d.toNat ≠ 0 := fun e => hd (UInt8.toNat_inj.1 e)
          show 0 < d.toNat
          omega
        simp [this]
    · by_cases hd : d = 0
      · subst hd
        rw [if_neg hc, if_pos rfl, List.cons_append, List.cons_append, List.cons_append, less_cons, less_cons]
        have : ¬ c < (0 : UInt8) := by
          rw [UInt8.lt_iff_toNat_lt]
          exact Nat.not_lt_zero _
        have hne : (c == (0 : UInt8)) = false := by simpa using hc
        have hne2 : (c :: a == (0 : UInt8) :: b) = false := by simp [hc]
        rw [hne, hne2]
        simp [this]
      · rw [if_neg hc, if_neg hd, List.cons_append, List.cons_append, less_cons, less_cons, ih]
        rw [Bool.eq_iff_iff]
        simp only [Bool.or_eq_true, Bool.and_eq_true, decide_eq_true_eq, beq_iff_eq, List.cons.injEq]
        constructor
        · rintro (h | ⟨h1, h2 | ⟨h2, h3⟩⟩)
          · exact Or.inl (Or.inl h)
          · exact Or.inl (Or.inr ⟨h1, h2⟩)
          · exact Or.inr ⟨⟨h1, h2⟩, h3⟩
        · rintro ((h | ⟨h1, h2⟩) | ⟨⟨h1, h2⟩, h3⟩)
          · exact Or.inl h
          · exact Or.inr ⟨h1, Or.inl h2⟩
          · exact Or.inr ⟨h1, Or.inr ⟨h2, h3⟩⟩

/-- A text comes back. -/
theorem tdec_esc (a s : List UInt8) : tdec (esc a ++ (0 :: 1 :: s)) = some (a, s) := by
  induction a with
  | nil => simp [esc, tdec]
  | cons c a ih =>
    simp only [esc]
    by_cases hc : c = 0
    · subst hc
      rw [if_pos rfl, List.cons_append, List.cons_append, tdec, if_pos rfl, if_neg (by decide), if_pos rfl, ih]
      rfl
    · rw [if_neg hc, List.cons_append, tdec_ne _ _ hc, ih]
      rfl

/-- Which of two values stands ahead. -/
def cmpV (x y : V) : Int :=
  if x.k ≠ y.k then sgn (decide (x.k < y.k))
  else if x.i ≠ y.i then sgn (decide (x.i < y.i))
  else if x.s ≠ y.s then sgn (Op.bytesLess x.s.toList y.s.toList)
  else cmpF x.f y.f

/-- A value, by its kind. -/
inductive Kind : V → Prop
  | int (i : Int) (h0 : -9223372036854775808 ≤ i) (h1 : i ≤ 9223372036854775807) : Kind ⟨1, i, ⟨#[]⟩, 0⟩
  | no : Kind ⟨2, 0, ⟨#[]⟩, 0⟩
  | yes : Kind ⟨2, 1, ⟨#[]⟩, 0⟩
  | text (k : Int) (hk : k = 3 ∨ k = 4) (s : ByteArray) (hs : s.size ≤ 60) : Kind ⟨k, 0, s, 0⟩
  | float (f : Nat) (hf : f < 18446744073709551616) : Kind ⟨5, 0, ⟨#[]⟩, f⟩

theorem empty_of_toList {s : ByteArray} (h : s.toList = []) : s = ⟨#[]⟩ := by
  rw [Go.ByteArray.toList_eq] at h
  apply ByteArray.ext
  have := congrArg List.toArray h
  simpa using this

theorem Kind.of {x : V} (hv : isV x = true) (ho : x.ok) : Kind x := by
  obtain ⟨k, i, s, f⟩ := x
  have h0 := ho.i0
  have h1 := ho.i1
  have h2 := ho.f1
  simp only at h0 h1 h2
  unfold isV at hv
  simp only at hv
  split at hv
  · simp only [Bool.and_eq_true, List.isEmpty_iff, beq_iff_eq] at hv
    obtain ⟨e1, e2⟩ := hv
    obtain rfl := empty_of_toList e1
    subst e2
    rename_i hk
    subst hk
    exact Kind.int i h0 h1
  · split at hv
    · simp only [Bool.and_eq_true, Bool.or_eq_true, List.isEmpty_iff, beq_iff_eq] at hv
      obtain ⟨⟨e0, e1⟩, e2⟩ := hv
      obtain rfl := empty_of_toList e1
      subst e2
      rename_i hk
      subst hk
      rcases e0 with rfl | rfl
      · exact Kind.no
      · exact Kind.yes
    · split at hv
      · simp only [Bool.and_eq_true, decide_eq_true_eq, beq_iff_eq] at hv
        obtain ⟨⟨e0, rfl⟩, rfl⟩ := hv
        rename_i hk
        exact Kind.text k hk s e0
      · split at hv
        · simp only [Bool.and_eq_true, List.isEmpty_iff, beq_iff_eq] at hv
          obtain ⟨rfl, e1⟩ := hv
          obtain rfl := empty_of_toList e1
          rename_i hk
          subst hk
          exact Kind.float f h2
        · cases hv

theorem ord_inj {a b : Nat} (ha : a < 18446744073709551616) (hb : b < 18446744073709551616) (h : ord a = ord b) : a = b := by
  rw [← ofF_ord ha, ← ofF_ord hb, h]

theorem cmpF_lt (a b : Nat) : cmpF a b < 0 ↔ ord a < ord b := by
  unfold cmpF
  split
  · simp [*]
  · split <;> simp [*]

theorem cmpF_eq (a b : Nat) : cmpF a b = 0 ↔ ord a = ord b := by
  unfold cmpF
  split
  · simp; omega
  · split
    · simp; omega
    · simp; omega

theorem sgn_lt (b : Bool) : sgn b < 0 ↔ b = true := by cases b <;> simp [sgn]
theorem sgn_ne (b : Bool) : sgn b ≠ 0 := by cases b <;> simp [sgn]

theorem encV_int (i : Int) : encV ⟨1, i, ⟨#[]⟩, 0⟩ = 1 :: be8 (i + 9223372036854775808).toNat := rfl
theorem encV_float (f : Nat) : encV ⟨5, 0, ⟨#[]⟩, f⟩ = 5 :: be8 (ord f) := rfl
theorem encV_text (k : Int) (hk : k = 3 ∨ k = 4) (s : ByteArray) : encV ⟨k, 0, s, 0⟩ = UInt8.ofNat k.toNat :: (esc s.data.toList ++ [0, 1]) := by
  rcases hk with rfl | rfl <;> rfl

theorem vdec_1 (r : List UInt8) : vdec (1 :: r) = if r.length < 8 then none else some (⟨1, (beN (r.take 8) : Int) - 9223372036854775808, ⟨#[]⟩, 0⟩, r.drop 8) := rfl
theorem vdec_5 (r : List UInt8) : vdec (5 :: r) = if r.length < 8 then none else some (⟨5, 0, ⟨#[]⟩, ofF (beN (r.take 8))⟩, r.drop 8) := rfl
theorem vdec_3 (r : List UInt8) : vdec (3 :: r) = match tdec r with | none => none | some p => if p.1.length ≤ 60 then some (⟨3, 0, ⟨p.1.toArray⟩, 0⟩, p.2) else none := rfl
theorem vdec_4 (r : List UInt8) : vdec (4 :: r) = match tdec r with | none => none | some p => if p.1.length ≤ 60 then some (⟨4, 0, ⟨p.1.toArray⟩, 0⟩, p.2) else none := rfl

/-- A value comes back. -/
theorem vdec_enc {x : V} (h : Kind x) (t : List UInt8) : vdec (encV x ++ t) = some (x, t) := by
  cases h with
  | int i h0 h1 =>
    rw [encV_int, List.cons_append, vdec_1, if_neg (by simp [be8_len])]
    rw [show (be8 (i + 9223372036854775808).toNat ++ t).take 8 = be8 (i + 9223372036854775808).toNat from rfl, show (be8 (i + 9223372036854775808).toNat ++ t).drop 8 = t from rfl, beN_be8 _ (by omega)]
    rw [Int.toNat_of_nonneg (by omega), Int.add_sub_cancel]
  | no => rfl
  | yes => rfl
  | text k hk s hs =>
    rw [encV_text k hk, List.cons_append, List.append_assoc]
    show vdec (UInt8.ofNat k.toNat :: (esc s.data.toList ++ (0 :: 1 :: t))) = _
    have hl : s.data.toList.length ≤ 60 := by rw [Array.length_toList]; exact hs
    rcases hk with rfl | rfl
    · show vdec (3 :: _) = _
      rw [vdec_3, tdec_esc]
      simp only [if_pos hl]
    · show vdec (4 :: _) = _
      rw [vdec_4, tdec_esc]
      simp only [if_pos hl]
  | float f hf =>
    rw [encV_float, List.cons_append, vdec_5, if_neg (by simp [be8_len])]
    rw [show (be8 (ord f) ++ t).take 8 = be8 (ord f) from rfl, show (be8 (ord f) ++ t).drop 8 = t from rfl, beN_be8 _ (ord_lt hf), ofF_ord hf]

theorem rows_enc : ∀ (L : List V), (∀ x ∈ L, Kind x) → rows (encL L) = some L
  | [], _ => rfl
  | x :: L, h => by
    show rows (encV x ++ encL L) = _
    rw [rows_some (vdec_enc (h x (by simp)) _), rows_enc L fun y hy => h y (by simp [hy])]
    rfl

theorem encL_append (a b : List V) : encL (a ++ b) = encL a ++ encL b := by simp [encL]

theorem cmp_kind {x y : V} (h : x.k ≠ y.k) : cmpV x y = sgn (decide (x.k < y.k)) := by unfold cmpV; rw [if_pos h]

theorem Kind.k {x : V} (h : Kind x) : 1 ≤ x.k ∧ x.k ≤ 5 := by
  cases h with
  | text k hk s hs => simp only; omega
  | _ => simp

theorem less_fin {c : Int} {p q : Prop} [Decidable p] [Decidable q] (h1 : c < 0 ↔ p) (h2 : c = 0 ↔ q) (b : Bool) : (decide p || (decide q && b)) = (decide (c < 0) || (decide (c = 0) && b)) := by
  simp only [h1, h2]

theorem cmpF_same (f : Nat) : cmpF f f = 0 := (cmpF_eq f f).2 rfl

theorem cmpV_int (k i j : Int) (s : ByteArray) (f : Nat) : (cmpV ⟨k, i, s, f⟩ ⟨k, j, s, f⟩ < 0 ↔ i < j) ∧ (cmpV ⟨k, i, s, f⟩ ⟨k, j, s, f⟩ = 0 ↔ i = j) := by
  unfold cmpV
  simp only [ne_eq, not_true_eq_false, if_false]
  by_cases h : i = j
  · subst h
    simp [cmpF_same]
  · rw [if_pos h, sgn_lt]
    exact ⟨by simp, ⟨fun e => absurd e (sgn_ne _), fun e => absurd e h⟩⟩

theorem cmpV_text (k i : Int) (s u : ByteArray) (f : Nat) : (cmpV ⟨k, i, s, f⟩ ⟨k, i, u, f⟩ < 0 ↔ Op.bytesLess s.toList u.toList = true) ∧ (cmpV ⟨k, i, s, f⟩ ⟨k, i, u, f⟩ = 0 ↔ s = u) := by
  unfold cmpV
  simp only [ne_eq, not_true_eq_false, if_false]
  by_cases h : s = u
  · subst h
    simp [cmpF_same, less_irrefl]
  · rw [if_pos h, sgn_lt]
    exact ⟨Iff.rfl, ⟨fun e => absurd e (sgn_ne _), fun e => absurd e h⟩⟩

theorem cmpV_float (k i : Int) (s : ByteArray) (f g : Nat) : (cmpV ⟨k, i, s, f⟩ ⟨k, i, s, g⟩ < 0 ↔ ord f < ord g) ∧ (cmpV ⟨k, i, s, f⟩ ⟨k, i, s, g⟩ = 0 ↔ ord f = ord g) := by
  unfold cmpV
  simp only [ne_eq, not_true_eq_false, if_false]
  exact ⟨cmpF_lt f g, cmpF_eq f g⟩

theorem encV_head (x : V) : ∃ r, encV x = UInt8.ofNat x.k.toNat :: r := ⟨_, rfl⟩

/-- Values stand as their bytes do, whatever stands behind them. -/
theorem less_val {x y : V} (hx : Kind x) (hy : Kind y) (s t : List UInt8) :
    Op.bytesLess (encV x ++ s) (encV y ++ t) = (decide (cmpV x y < 0) || (decide (cmpV x y = 0) && Op.bytesLess s t)) := by
  have kx := hx.k
  have ky := hy.k
  by_cases hk : x.k = y.k
  · cases hx with
    | int i h0 h1 =>
      cases hy with
      | int j g0 g1 =>
        rw [encV_int, encV_int, List.cons_append, List.cons_append, less_same, less_be8 _ _ (by omega) (by omega)]
        exact less_fin ((cmpV_int 1 i j ⟨#[]⟩ 0).1.trans (by omega)) ((cmpV_int 1 i j ⟨#[]⟩ 0).2.trans (by omega)) _
      | text k hk2 s hs => simp at hk; omega
      | _ => simp at hk
    | no =>
      cases hy with
      | no => exact (less_same _ _ _).trans ((less_same _ _ _).trans rfl)
      | yes => rfl
      | text k hk2 s hs => simp at hk; omega
      | _ => simp at hk
    | yes =>
      cases hy with
      | yes => exact (less_same _ _ _).trans ((less_same _ _ _).trans rfl)
      | no => rfl
      | text k hk2 s hs => simp at hk; omega
      | _ => simp at hk
    | text k hk2 u hs =>
      cases hy with
      | text k2 hk3 v hv =>
        simp only at hk
        subst hk
        rw [encV_text k hk2, encV_text k hk2, List.cons_append, List.cons_append, less_same, List.append_assoc, List.append_assoc]
        show Op.bytesLess (esc u.data.toList ++ (0 :: 1 :: s)) (esc v.data.toList ++ (0 :: 1 :: t)) = _
        rw [less_text]
        have e : (u.data.toList == v.data.toList) = decide (u = v) := by
          rw [Bool.eq_iff_iff]
          simp only [beq_iff_eq, decide_eq_true_eq]
          exact ⟨fun h => ByteArray.ext (by simpa using congrArg List.toArray h), fun h => by rw [h]⟩
        rw [e, ← Go.ByteArray.toList_eq, ← Go.ByteArray.toList_eq]
        have := less_fin (cmpV_text k 0 u v 0).1 (cmpV_text k 0 u v 0).2 (Op.bytesLess s t)
        rw [← this]
        simp
      | _ => simp at hk; omega
    | float f hf =>
      cases hy with
      | float g hg =>
        rw [encV_float, encV_float, List.cons_append, List.cons_append, less_same, less_be8 _ _ (ord_lt hf) (ord_lt hg)]
        exact less_fin (cmpV_float 5 0 ⟨#[]⟩ f g).1 (cmpV_float 5 0 ⟨#[]⟩ f g).2 _
      | text k hk2 s hs => simp at hk; omega
      | _ => simp at hk
  · obtain ⟨r1, e1⟩ := encV_head x
    obtain ⟨r2, e2⟩ := encV_head y
    rw [e1, e2, List.cons_append, List.cons_append, less_cons, cmp_kind hk]
    have n1 : (UInt8.ofNat x.k.toNat).toNat = x.k.toNat := by rw [UInt8.toNat_ofNat']; omega
    have n2 : (UInt8.ofNat y.k.toNat).toNat = y.k.toNat := by rw [UInt8.toNat_ofNat']; omega
    have hne : (UInt8.ofNat x.k.toNat == UInt8.ofNat y.k.toNat) = false := by
      rw [beq_eq_false_iff_ne]
      intro h
      have := congrArg UInt8.toNat h
      rw [n1, n2] at this
      omega
    rw [hne, Bool.eq_iff_iff]
    have h0 := sgn_ne (decide (x.k < y.k))
    simp only [Bool.false_and, Bool.or_false, decide_eq_true_eq, UInt8.lt_iff_toNat_lt, n1, n2, sgn_lt, h0, decide_false]
    omega

/-- Which of two rows stands ahead, value after value. -/
def rowsV : List V → List V → Int
  | [], [] => 0
  | [], _ :: _ => -1
  | _ :: _, [] => 1
  | x :: a, y :: b => if cmpV x y ≠ 0 then cmpV x y else rowsV a b

theorem cmpV_zero {x y : V} (hx : Kind x) (hy : Kind y) (h : cmpV x y = 0) : x = y := by
  have kx := hx.k
  have ky := hy.k
  by_cases hk : x.k = y.k
  · cases hx with
    | int i h0 h1 =>
      cases hy with
      | int j g0 g1 => rw [(cmpV_int 1 i j ⟨#[]⟩ 0).2.1 h]
      | text k hk2 s hs => simp at hk; omega
      | _ => simp at hk
    | no =>
      cases hy with
      | no => rfl
      | yes => exact absurd h (by decide)
      | text k hk2 s hs => simp at hk; omega
      | _ => simp at hk
    | yes =>
      cases hy with
      | yes => rfl
      | no => exact absurd h (by decide)
      | text k hk2 s hs => simp at hk; omega
      | _ => simp at hk
    | text k hk2 u hs =>
      cases hy with
      | text k2 hk3 v hv =>
        simp only at hk
        subst hk
        rw [(cmpV_text k 0 u v 0).2.1 h]
      | _ => simp at hk; omega
    | float f hf =>
      cases hy with
      | float g hg => rw [ord_inj hf hg ((cmpV_float 5 0 ⟨#[]⟩ f g).2.1 h)]
      | text k hk2 s hs => simp at hk; omega
      | _ => simp at hk
  · rw [cmp_kind hk] at h
    exact absurd h (sgn_ne _)

theorem less_rows : ∀ (a b : List V), (∀ x ∈ a, Kind x) → (∀ x ∈ b, Kind x) → a.length = b.length → (Op.bytesLess (encL a) (encL b) = decide (rowsV a b < 0)) ∧ (encL a = encL b ↔ rowsV a b = 0)
  | [], [], _, _, _ => by decide
  | [], _ :: _, _, _, h => by simp at h
  | _ :: _, [], _, _, h => by simp at h
  | x :: a, y :: b, ha, hb, h => by
    have hx := ha x (by simp)
    have hy := hb y (by simp)
    obtain ⟨i1, i2⟩ := less_rows a b (fun z hz => ha z (by simp [hz])) (fun z hz => hb z (by simp [hz])) (by simpa using h)
    have e1 : encL (x :: a) = encV x ++ encL a := rfl
    have e2 : encL (y :: b) = encV y ++ encL b := rfl
    have hr : rowsV (x :: a) (y :: b) = if cmpV x y ≠ 0 then cmpV x y else rowsV a b := rfl
    rw [e1, e2, less_val hx hy, i1, hr]
    by_cases hc : cmpV x y = 0
    · have hxy := cmpV_zero hx hy hc
      subst hxy
      rw [if_neg (by simpa using hc)]
      refine ⟨by simp [hc], ?_⟩
      rw [List.append_cancel_left_eq]
      exact i2
    · rw [if_pos hc]
      refine ⟨by simp [hc], ⟨fun he => ?_, fun he => absurd he hc⟩⟩
      have h1 := vdec_enc hx (encL a)
      rw [he, vdec_enc hy] at h1
      simp only [Option.some.injEq, Prod.mk.injEq] at h1
      rw [h1.1] at hc
      exfalso
      apply hc
      unfold cmpV
      simp [cmpF_same]

end Go.Proofs.Ytmdkfbbagjcboaa
