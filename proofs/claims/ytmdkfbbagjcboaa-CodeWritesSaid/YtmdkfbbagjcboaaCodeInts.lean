/-
  CodeInts: bytes of integers stand as these do. Conditions: none.
-/
import Derived.Test.YtmdkfbbagjcboaaCodeKnown
import Derived.Test.YtmdkfbbagjcboaaCodeMath
namespace Go.Proofs.Ytmdkfbbagjcboaa
open Go.RowKit

theorem own_slice {w : World} {B n : Nat} {v : Value} {xs : List Value} (h : w.ownsRow B 5 1 v n xs) (h0 : n ≠ 0) : ∃ g cap, v = .slice (some ⟨g, 0, none⟩) n cap ∧ n ≤ cap ∧ cap ≤ maxLen := by
  rcases h.2 with ⟨rfl, h1⟩ | ⟨g, cap, cur, rfl, hbg, hg, hnc, hcm, hcs, htake⟩
  · exact absurd h1 h0
  · exact ⟨g, cap, rfl, hnc, hcm⟩

theorem ints_less (a b : Int) (ha0 : -9223372036854775808 ≤ a) (ha1 : a ≤ 9223372036854775807) (hb0 : -9223372036854775808 ≤ b) (hb1 : b ≤ 9223372036854775807) :
    Op.bytesLess (encL [⟨1, a, ⟨#[]⟩, 0⟩]) (encL [⟨1, b, ⟨#[]⟩, 0⟩]) = decide (a < b) ∧ (encL [⟨1, a, ⟨#[]⟩, 0⟩] = encL [⟨1, b, ⟨#[]⟩, 0⟩] ↔ a = b) := by
  obtain ⟨h1, h2⟩ := less_rows [⟨1, a, ⟨#[]⟩, 0⟩] [⟨1, b, ⟨#[]⟩, 0⟩] (fun x hx => by simp at hx; subst hx; exact Kind.int a ha0 ha1) (fun x hx => by simp at hx; subst hx; exact Kind.int b hb0 hb1) rfl
  obtain ⟨c1, c2⟩ := cmpV_int 1 a b ⟨#[]⟩ 0
  have hr : rowsV [⟨1, a, ⟨#[]⟩, 0⟩] [⟨1, b, ⟨#[]⟩, 0⟩] = cmpV ⟨1, a, ⟨#[]⟩, 0⟩ ⟨1, b, ⟨#[]⟩, 0⟩ := by
    show (if _ then _ else (0 : Int)) = _
    split
    · rfl
    · rename_i h; simpa using Eq.symm (Classical.not_not.1 h)
  rw [hr] at h1 h2
  exact ⟨by rw [h1]; simp only [c1], h2.trans c2⟩

theorem Same.to_below {w w' : World} (h : Same (fun _ => False) w w') : Below w.heap.size w w' := ⟨h.os, h.tape, h.output, h.size, fun k hk => h.block k hk id⟩

theorem codeInts_any (a b : Int) (W : World) (ha0 : -9223372036854775808 ≤ a) (ha1 : a ≤ 9223372036854775807) (hb0 : -9223372036854775808 ≤ b) (hb1 : b ≤ 9223372036854775807) :
    Calls Try.prog 5 #[.int .i64 a, .int .i64 b] W fun e w' => e = .returned (.bool true) ∧ Below W.heap.size W w' := by
  have hok : ∀ (n : Int), -9223372036854775808 ≤ n → n ≤ 9223372036854775807 → ∀ x ∈ [(⟨1, n, ⟨#[]⟩, 0⟩ : V)], x.ok := by
    intro n h0 h1 x hx
    simp at hx
    subst hx
    exact ⟨by simp, by simp, h0, h1, (by show (0 : Nat) ≤ _; omega), by simp⟩
  have hall : ∀ n : Int, [(⟨1, n, ⟨#[]⟩, 0⟩ : V)].all isV = true := by
    intro n
    simp [isV, Go.ByteArray.toList_eq]
  have HOK := Lib.hid hok; have HALL := Lib.hid hall
  clear hok hall
  go_enter Try.func5, Try.ntmps5
  go_wp2_with fail
  refine (known_any W).mono ?_
  rintro e w1 ⟨rfl, hs1⟩
  have HS1 := Lib.hid hs1; clear hs1
  go_wp2_with fail
  refine (put_yes (readV_one w1 ⟨1, a, ⟨#[]⟩, 0⟩) (HOK.out a ha0 ha1) (by simp) (HALL.out a)).mono ?_
  rintro e w2 ⟨x, rfl, hox, hs2⟩
  have hs12 := (HS1.out.alloc (⟨1, a, ⟨#[]⟩, 0⟩ : V).obj).trans hs2 (fun _ _ h => h)
  have HS2 := Lib.hid hs12; have HX := Lib.hid hox; clear hs2 hs12 hox HS1
  go_wp2_with fail
  refine (put_yes (readV_one w2 ⟨1, b, ⟨#[]⟩, 0⟩) (HOK.out b hb0 hb1) (by simp) (HALL.out b)).mono ?_
  rintro e w3 ⟨y, rfl, hoy, hs3⟩
  have hs23 := ((Same.refl (fun _ => False) w2).alloc (⟨1, b, ⟨#[]⟩, 0⟩ : V).obj).trans hs3 (fun _ _ h => h)
  have hox := hs23.row HX.out (fun _ _ => id)
  have hcx := own_string hox
  have hcy := own_string hoy
  have HS3 := Lib.hid (HS2.out.trans hs23 (fun _ _ h => h))
  clear hs3 hs23 HX HS2
  obtain ⟨hl, he⟩ := ints_less a b ha0 ha1 hb0 hb1
  obtain ⟨gx, capx, rfl, hx1, hx2⟩ := own_slice hox (by simp [encL, encV_int, be8_len])
  obtain ⟨gy, capy, rfl, hy1, hy2⟩ := own_slice hoy (by simp [encL, encV_int, be8_len])
  have lx : (encL [(⟨1, a, ⟨#[]⟩, 0⟩ : V)]).length = 9 := rfl
  have ly : (encL [(⟨1, b, ⟨#[]⟩, 0⟩ : V)]).length = 9 := rfl
  rw [lx] at hcx hx1 ⊢
  rw [ly] at hcy hy1 ⊢
  obtain ⟨X, hX⟩ : ∃ X : ByteArray, X = ⟨(encL [(⟨1, a, ⟨#[]⟩, 0⟩ : V)]).toArray⟩ := ⟨_, rfl⟩
  obtain ⟨Y, hY⟩ : ∃ Y : ByteArray, Y = ⟨(encL [(⟨1, b, ⟨#[]⟩, 0⟩ : V)]).toArray⟩ := ⟨_, rfl⟩
  have hlXY : Op.bytesLess X.toList Y.toList = decide (a < b) := by rw [hX, hY, Go.ByteArray.toList_eq, Go.ByteArray.toList_eq]; exact hl
  have heXY : (X.toList == Y.toList) = (a == b) := by
    rw [hX, hY, Go.ByteArray.toList_eq, Go.ByteArray.toList_eq, Bool.eq_iff_iff]
    simp only [beq_iff_eq]
    exact he
  rw [← hX] at hcx
  rw [← hY] at hcy
  have HE := Lib.hid heXY
  clear hox hoy hl he lx ly hX hY heXY
  go_wp2_with fail
  go_ret
  exact ⟨ret_bool (by rw [HE.out]; simp), HS3.out.to_below⟩

end Go.Proofs.Ytmdkfbbagjcboaa
