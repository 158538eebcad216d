/-
  CodeWrites: every row of values has the document's bytes, or none; every bytes are a row's, or none. Conditions: none.
-/
import Derived.Test.YtmdkfbbagjcboaaCodeWritesM
import Derived.Test.YtmdkfbbagjcboaaCodeRefPut
import Derived.Test.YtmdkfbbagjcboaaCodeOrder
namespace Go.Proofs.Ytmdkfbbagjcboaa
open Go.RowKit

def putB (L : List V) : List UInt8 := if L.all isV = true then encL L else []
def putC (L : List V) : Int := if L.all isV = true then 0 else 20

theorem put_says {w : World} {v : Value} {L : List V} (h : ReadV w v L) (hok : ∀ x ∈ L, x.ok) (hn : L.length ≤ 1000) :
    Calls Try.prog 10 #[v] w fun e w' => ∃ x, e = .returned (.tuple #[x, .int .i64 (putC L)]) ∧ w'.ownsRow w.heap.size 5 1 x (putB L).length (bytesV (putB L)) ∧ Same (fun _ => False) w w' :=
  (put_any h hok hn).mono fun e w' ⟨h1, h2, h3⟩ => by
    unfold putB putC
    cases hv : L.all isV with
    | true =>
      obtain ⟨v', e1, e2⟩ := h1 hv
      exact ⟨v', by simpa using e1, by simpa using e2, Same.of_below h3⟩
    | false => exact ⟨_, by simpa using h2 hv, by simpa [bytesV] using World.ownsRow_nil _ _ _ _, Same.of_below h3⟩

theorem rput_says {w : World} {v : Value} {L : List V} (h : ReadV w v L) (hok : ∀ x ∈ L, x.ok) (hn : L.length ≤ 1000) :
    Calls Try.prog 11 #[v] w fun e w' => ∃ x, e = .returned (.tuple #[x, .int .i64 (putC L)]) ∧ w'.ownsRow w.heap.size 5 1 x (putB L).length (bytesV (putB L)) ∧ Same (fun _ => False) w w' :=
  (rput_any h hok hn).mono fun e w' ⟨h1, h2, h3⟩ => by
    unfold putB putC
    cases hv : L.all isV with
    | true =>
      obtain ⟨v', e1, e2⟩ := h1 hv
      exact ⟨v', by simpa using e1, by simpa using e2, Same.of_below h3⟩
    | false => exact ⟨_, by simpa using h2 hv, by simpa [bytesV] using World.ownsRow_nil _ _ _ _, Same.of_below h3⟩

def getC (l : List UInt8) : Int := if (rows l).isSome then 0 else 20

theorem get_says {w : World} {v : Value} {l : List UInt8} (h : RD w v l) (hl : l.length ≤ 1000000) :
    Calls Try.prog 12 #[v] w fun e w' => ∃ x, e = .returned (.tuple #[x, .int .i64 (getC l)]) ∧ ReadV w' x ((rows l).getD []) ∧ Same (fun _ => False) w w' :=
  (get_reads h hl).mono fun e w' ⟨hs, h1⟩ => by
    unfold getC
    cases hr : rows l with
    | none =>
      rw [hr] at h1
      exact ⟨_, by simpa using h1, ReadV.own (B := 0) (World.ownsRow_nil _ _ _ _), hs⟩
    | some L =>
      rw [hr] at h1
      obtain ⟨v', e1, e2⟩ := h1
      exact ⟨v', by simpa using e1, ReadV.own e2, hs⟩

theorem rget_says {w : World} {v : Value} {l : List UInt8} (h : RA w v l) (hl : l.length ≤ 1000000) :
    Calls Try.prog 13 #[v] w fun e w' => ∃ x, e = .returned (.tuple #[x, .int .i64 (getC l)]) ∧ ReadV w' x ((rows l).getD []) ∧ Same (fun _ => False) w w' :=
  (rget_ra h hl).mono fun e w' ⟨hs, h1⟩ => by
    unfold getC
    cases hr : rows l with
    | none =>
      rw [hr] at h1
      exact ⟨_, by simpa using h1, ReadV.own (B := 0) (World.ownsRow_nil _ _ _ _), hs⟩
    | some L =>
      rw [hr] at h1
      obtain ⟨v', e1, e2⟩ := h1
      exact ⟨v', by simpa using e1, ReadV.own e2, hs⟩

theorem rows_getD {l : List UInt8} (hl : l.length ≤ 1000000) : (∀ x ∈ (rows l).getD [], x.ok) ∧ ((rows l).getD []).length ≤ maxLen := by
  cases hr : rows l with
  | none => exact ⟨fun x hx => by simp at hx, Nat.zero_le _⟩
  | some L =>
    obtain ⟨h1, h2⟩ := rows_ok hr
    exact ⟨h1, by simp only [Option.getD_some]; unfold maxLen; omega⟩

set_option maxRecDepth 1000000 in
set_option maxHeartbeats 4000000 in
theorem codeWrites_any {W : World} {v u : Value} {L : List V} {B : List UInt8} (hr : ReadV W v L) (hok : ∀ x ∈ L, x.ok) (hn : L.length ≤ maxLen) (hb : RA W u B) (hbn : B.length ≤ maxLen) :
    Calls Try.prog 3 #[v, u] W fun e w' => e = .returned (.bool true) ∧ Below W.heap.size W w' := by
  have HR := Lib.hid hr; have HOK := Lib.hid hok; have HN := Lib.hid hn; have HB := Lib.hid hb
  obtain ⟨bo, dap, rfl⟩ := hb.len
  unfold maxLen at hbn
  clear hr hok hn hb
  go_enter Try.func3, Try.ntmps3
  go_wp2_with fail
  refine (known_any W).mono ?_
  rintro e w1 ⟨rfl, hs1⟩
  have HS1 := Lib.hid hs1; clear hs1
  go_wp2_with fail
  refine (few_any (HR.out.same HS1.out) HOK.out HN.out 20).mono ?_
  rintro e w1 ⟨rfl, rfl⟩
  rcases few_split (L := L) (m := 20) with hf | hf
  · rw [hf]
    clear hf
    go_wp2_with fail
    go_ret
    exact ⟨rfl, HS1.out.to_below⟩
  have hA := few_many hf
  rw [hf]
  clear hf
  by_cases hbig : (B.length : Int) > 1000
  · go_wp2_with fail
    go_ret
    exact ⟨rfl, HS1.out.to_below⟩
  go_wp2_with fail
  refine (put_says (HR.out.same HS1.out) HOK.out (by omega)).mono ?_
  rintro e w2 ⟨x, rfl, hox, hs2⟩
  have HS2 := Lib.hid (HS1.out.trans hs2 (fun _ _ h => h)); have HX := Lib.hid hox
  clear hs2 hox HS1
  go_wp2_with fail
  refine (rput_says (HR.out.same HS2.out) HOK.out (by omega)).mono ?_
  rintro e w3 ⟨y, rfl, hoy, hs3⟩
  have HS3 := Lib.hid (HS2.out.trans hs3 (fun _ _ h => h)); have HY := Lib.hid hoy
  have HX3 := Lib.hid (hs3.row HX.out (fun _ _ => id))
  clear hs3 hoy HX HS2
  go_wp2_with (at_builtin; refine wpList_append_ra w3 rfl (.const (.slice none 0 0)) (.tmp 34) rfl w3.heap.size (.slice none 0 0) [] rfl (World.ownsRow_nil _ _ _ _) (.slice bo B.length dap) B rfl (HB.out.same HS3.out) ?c1 (Nat.le_refl _) ?_)
  case c1 => simp; omega
  intro z w4 hb4
  have hs34 : Same (fun _ => False) w3 w4 := hb4.same.narrow (fun k _ e => by cases e)
  have hz := hb4.own
  have HZ := Lib.hid (RD.own hz); have HS4 := Lib.hid (HS3.out.trans hs34 (fun _ _ h => h))
  have HX4 := Lib.hid (hs34.row HX3.out (fun _ _ => id)); have HY4 := Lib.hid (hs34.row HY.out (fun _ _ => id))
  clear hb4 hs34 hz HX3 HY HS3
  go_wp2_with fail
  refine (get_says HZ.out (by omega)).mono ?_
  rintro e w5 ⟨m, rfl, hm, hs5⟩
  have HS5 := Lib.hid (HS4.out.trans hs5 (fun _ _ h => h)); have HM := Lib.hid hm
  have HX5 := Lib.hid (hs5.row HX4.out (fun _ _ => id)); have HY5 := Lib.hid (hs5.row HY4.out (fun _ _ => id))
  clear hs5 hm HX4 HY4 HS4 HZ
  go_wp2_with fail
  refine (rget_says (HB.out.same HS5.out) (by omega)).mono ?_
  rintro e w6 ⟨n, rfl, hn6, hs6⟩
  have HS6 := Lib.hid (HS5.out.trans hs6 (fun _ _ h => h)); have HM6 := Lib.hid (HM.out.same hs6); have HN6 := Lib.hid hn6
  have hcx := own_string (hs6.row HX5.out (fun _ _ => id))
  have hcy := own_string (hs6.row HY5.out (fun _ _ => id))
  obtain ⟨X, hX⟩ : ∃ X : ByteArray, X = ⟨(putB L).toArray⟩ := ⟨_, rfl⟩
  rw [← hX] at hcx hcy
  obtain ⟨c, hc⟩ : ∃ c, c = putC L := ⟨_, rfl⟩
  rw [← hc]
  obtain ⟨g, hg⟩ : ∃ g, g = getC B := ⟨_, rfl⟩
  rw [← hg]
  have HRW := Lib.hid (rows_getD (l := B) (by omega))
  have hg2 : (g == 0) = (rows B).isSome := by rw [hg]; unfold getC; cases (rows B).isSome <;> rfl
  have HG2 := Lib.hid hg2
  clear hs6 hn6 HX5 HY5 HS5 HM hX hc hg hg2
  go_wp2_with fail
  refine (vals_self HM6.out HN6.out HRW.out.1 HRW.out.2).mono ?_
  rintro e w7 ⟨rfl, hs7⟩
  have HS7 := Lib.hid (HS6.out.trans hs7 (fun _ _ h => h)); clear hs7 HS6
  go_wp2_with fail
  refine (whole_ra (HB.out.same HS7.out) (by omega)).mono ?_
  rintro e w8 ⟨rfl, hs8⟩
  have HS8 := Lib.hid (HS7.out.trans hs8 (fun _ _ h => h)); clear hs8 HS7
  go_wp2_with fail
  go_ret
  exact ⟨ret_bool (by rw [HG2.out]; simp), HS8.out.to_below⟩

end Go.Proofs.Ytmdkfbbagjcboaa
