/-
  Package code, told of memory: the reader takes bytes, and reads a number. Conditions: none on inputs.
-/
import Derived.Test.YtmdkfbbagjcboaaCodePut
import Derived.Lib.BytesEntry
namespace Go.Proofs.Ytmdkfbbagjcboaa
open Go.RowKit

/-- Bytes that can be read in block b0 from a place on. -/
structure RB (w : World) (b0 off cap : Nat) (l : List UInt8) : Prop where
  le : l.length ≤ cap
  mx : cap ≤ maxLen
  cells : ∀ (j : Nat) (x : UInt8), l[j]? = some x → w.cell? ⟨b0, off + j, none⟩ = some (.int .u8 (x.toNat : Int))

theorem RB.same {F : Nat → Prop} {w w' : World} {b0 off cap : Nat} {l : List UInt8} (h : RB w b0 off cap l) (hs : Same F w w') (hb : b0 < w.heap.size) (hn : ¬ F b0) : RB w' b0 off cap l :=
  ⟨h.le, h.mx, fun j x hj => (World.cell?_of_block (w := w) (a := ⟨b0, off + j, none⟩) (hs.block b0 hb hn)).trans (h.cells j x hj)⟩

theorem RB.take {w : World} {b0 off cap : Nat} {l : List UInt8} (h : RB w b0 off cap l) (n : Nat) : RB w b0 off cap (l.take n) :=
  ⟨by have := h.le; simp; omega, h.mx, fun j x hj => by
    rw [List.getElem?_take] at hj
    split at hj
    · exact h.cells j x hj
    · cases hj⟩

theorem RB.drop {w : World} {b0 off cap : Nat} {l : List UInt8} (h : RB w b0 off cap l) (n : Nat) : RB w b0 (if cap = n then off else off + n) (cap - n) (l.drop n) :=
  ⟨by have := h.le; simp; omega, by have := h.mx; omega, fun j x hj => by
    rw [List.getElem?_drop] at hj
    have hlt := (List.getElem?_eq_some_iff.1 hj).1
    have hle := h.le
    rw [if_neg (by omega), Nat.add_assoc]
    exact h.cells (n + j) x hj⟩

/-- A reader (its block) with these bytes left. -/
def Rd (w : World) (rb b0 : Nat) (l : List UInt8) : Prop :=
  ∃ off cap, One w rb (.slice (some ⟨b0, off, none⟩) l.length cap) 51 ∧ RB w b0 off cap l ∧ b0 < w.heap.size ∧ b0 ≠ rb

theorem Rd.same {F : Nat → Prop} {w w' : World} {rb b0 : Nat} {l : List UInt8} (h : Rd w rb b0 l) (hs : Same F w w') (hn : ¬ F b0) (hr : ¬ F rb) : Rd w' rb b0 l := by
  obtain ⟨off, cap, h1, h2, h3, h4⟩ := h
  exact ⟨off, cap, hs.one h1 hr, h2.same hs h3 hn, Nat.lt_of_lt_of_le h3 hs.size, h4⟩

theorem Rd.set {w : World} {rb b0 off cap : Nat} {l : List UInt8} {u : Value} (h1 : One w rb u 51) (h2 : RB w b0 off cap l) (h3 : b0 < w.heap.size) (h4 : b0 ≠ rb) :
    Rd (w.setCell ⟨rb, 0, none⟩ (.slice (some ⟨b0, off, none⟩) l.length cap)) rb b0 l :=
  ⟨off, cap, h1.setCell _, h2.same (F := fun k => k = rb) ((Same.refl (fun k => k = rb) w).setCell (p := ⟨rb, 0, none⟩) (fun _ => rfl) _) h3 h4, by simpa [World.setCell] using h3, h4⟩

theorem takes_no {w : World} {rb b0 : Nat} {l : List UInt8} (h : Rd w rb b0 l) (n : Nat) (hn : l.length < n) :
    Calls Try.prog 30 #[.pointer (some ⟨rb, 0, none⟩), .int .i64 n] w fun e w' => e = .returned (.tuple #[.slice none 0 0, .bool false]) ∧ w = w' := by
  obtain ⟨off, cap, h1, h2, _, _⟩ := h
  have c0 := h1.cell
  have hmx := h2.mx
  have hle := h2.le
  unfold maxLen at hmx
  clear h1 h2
  go_enter Try.func30, Try.ntmps30
  go_wp2
  go_ret2
  exact ⟨rfl, rfl⟩

theorem takes_yes {w : World} {rb b0 : Nat} {l : List UInt8} (h : Rd w rb b0 l) (n : Nat) (hn : n ≤ l.length) :
    Calls Try.prog 30 #[.pointer (some ⟨rb, 0, none⟩), .int .i64 n] w fun e w' =>
      ∃ off cap, e = .returned (.tuple #[.slice (some ⟨b0, off, none⟩) n cap, .bool true]) ∧ RB w' b0 off cap (l.take n) ∧ Same (fun k => k = rb) w w' ∧ Rd w' rb b0 (l.drop n) := by
  obtain ⟨off, cap, h1, h2, h3, h4⟩ := h
  have c0 := h1.cell
  have f0 := h1.free
  have hmx := h2.mx
  have hle := h2.le
  unfold maxLen at hmx
  have hset := Rd.set h1 (h2.drop n) h3 h4
  rw [List.length_drop] at hset
  have hs : ∀ u, Same (fun k => k = rb) w (w.setCell ⟨rb, 0, none⟩ u) := fun u => (Same.refl (fun k => k = rb) w).setCell (p := ⟨rb, 0, none⟩) (fun _ => rfl) _
  have hres : ∀ u, RB (w.setCell ⟨rb, 0, none⟩ u) b0 off cap (l.take n) := fun u => (h2.take n).same (hs u) h3 h4
  by_cases hcn : cap = n
  · rw [if_pos hcn] at hset
    subst hcn
    have hl0 : l.length - cap = 0 := by omega
    rw [hl0] at hset
    have HS := Lib.hid hset; have HSM := Lib.hid hs; have HR := Lib.hid hres
    clear h1 h2 h4 hset hs hres
    go_enter Try.func30, Try.ntmps30
    go_wp2
    go_ret2
    exact ⟨off, cap, rfl, HR.out _, HSM.out _, (by have := HS.out; rw [Nat.sub_self] at this; exact this)⟩
  · rw [if_neg hcn] at hset
    have HS := Lib.hid hset; have HSM := Lib.hid hs; have HR := Lib.hid hres
    clear h1 h2 h4 hset hs hres
    go_enter Try.func30, Try.ntmps30
    go_wp2
    go_ret2
    exact ⟨off, cap, rfl, HR.out _, HSM.out _, HS.out⟩

/-- The number of bytes, the highest first. -/
def beN (l : List UInt8) : Nat := l.foldl (fun n b => n * 256 + b.toNat) 0

theorem beN_snoc (l : List UInt8) (b : UInt8) : beN (l ++ [b]) = beN l * 256 + b.toNat := by simp [beN]

theorem beN_from (l : List UInt8) : ∀ n, l.foldl (fun n b => n * 256 + b.toNat) n < (n + 1) * 256 ^ l.length := by
  induction l with
  | nil => intro n; simp
  | cons b l ih =>
    intro n
    rw [List.foldl_cons, List.length_cons, Nat.pow_succ, Nat.mul_comm (256 ^ _), ← Nat.mul_assoc]
    refine Nat.lt_of_lt_of_le (ih _) (Nat.mul_le_mul_right _ ?_)
    have := b.toNat_lt
    omega

theorem beN_lt (l : List UInt8) : beN l < 256 ^ l.length := by have := beN_from l 0; rwa [Nat.zero_add, Nat.one_mul] at this

theorem bits_or_byte (m : Nat) (b : UInt8) (h : m < 256 ^ 7) :
    bits .or .u64 (IntKind.u64.wrap ((m : Int) * 256)) (IntKind.u64.wrap (b.toNat : Int)) = ((m * 256 + b.toNat : Nat) : Int) := by
  have hb := b.toNat_lt
  have e1 : IntKind.u64.wrap ((m : Int) * 256) = ((2 ^ 8 * m : Nat) : Int) := by
    rw [IntKind.wrap_u64]; omega
  have e2 : IntKind.u64.wrap (b.toNat : Int) = ((b.toNat : Nat) : Int) := by
    rw [IntKind.wrap_u64]; omega
  rw [e1, e2, bits_or_u64_nat _ _ (by omega) (by omega), ← Nat.two_pow_add_eq_or_of_lt (by omega)]
  omega

theorem num_no {w : World} {rb b0 : Nat} {l : List UInt8} (h : Rd w rb b0 l) (hn : l.length < 8) :
    Calls Try.prog 31 #[.pointer (some ⟨rb, 0, none⟩)] w fun e w' => e = .returned (.tuple #[.int .u64 0, .bool false]) ∧ w = w' := by
  have H := Lib.hid h; clear h
  go_enter Try.func31, Try.ntmps31
  go_wp2_with fail
  refine (takes_no H.out 8 hn).mono ?_
  rintro e w' ⟨rfl, rfl⟩
  go_wp2_with fail
  refine wp_loop_rounds 1 ?_
  rw [rounds_succ]
  go_wp2_with fail
  go_ret2
  exact ⟨rfl, rfl⟩

theorem num_yes {w : World} {rb b0 : Nat} {l : List UInt8} (h : Rd w rb b0 l) (hn : 8 ≤ l.length) :
    Calls Try.prog 31 #[.pointer (some ⟨rb, 0, none⟩)] w fun e w' =>
      e = .returned (.tuple #[.int .u64 (beN (l.take 8)), .bool true]) ∧ Same (fun k => k = rb) w w' ∧ Rd w' rb b0 (l.drop 8) := by
  have H := Lib.hid h; clear h
  go_enter Try.func31, Try.ntmps31
  go_wp2_with fail
  refine (takes_yes H.out 8 hn).mono ?_
  rintro e w1 ⟨off, cap, rfl, hrb, hs, hr⟩
  have HRB := Lib.hid hrb; have HS := Lib.hid hs; have HR := Lib.hid hr
  clear hrb hs hr
  go_wp2_with fail
  go_loop [6, 16] (fun n i => ∃ j : Nat, j ≤ 8 ∧ i = .int .i64 j ∧ n = .int .u64 (beN (l.take j))) (fun _ i => 8 - (intOf i).toNat)
  case atStart => exact ⟨0, by omega, rfl, rfl⟩
  case round =>
    obtain ⟨j, hj, rfl, rfl⟩ := hrel
    by_cases hlt : j < 8
    · have hc := HRB.out.cells j l[j] (by rw [List.getElem?_take_of_lt hlt, List.getElem?_eq_getElem])
      have hN := beN_lt (l.take j)
      have hst := beN_snoc (l.take j) l[j]
      rw [← List.take_succ_eq_append_getElem (by omega)] at hst
      go_wp2_with fail
      go_ways
      rw [bits_or_byte _ _ (Nat.lt_of_lt_of_le hN (Nat.pow_le_pow_right (by omega) (by simp; omega)))]
      refine ⟨⟨j + 1, by omega, by simp, by rw [hst]⟩, ?_⟩
      simp only [intOf]
      omega
    · obtain rfl : j = 8 := by omega
      go_wp2_with fail
      go_ret2
      exact ⟨rfl, HS.out, HR.out⟩

end Go.Proofs.Ytmdkfbbagjcboaa
