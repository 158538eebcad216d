/-
  CodeTexts: a text's bytes come back, and none is another one's beginning. Conditions: none.
-/
import Derived.Test.YtmdkfbbagjcboaaCodeInts
import Derived.Deep.QuietTactic
import Derived.BigQuiet
namespace Go.Proofs.Ytmdkfbbagjcboaa
open Go.RowKit

theorem own_sliceV {w : World} {B n : Nat} {v : Value} {xs : List Value} (h : w.ownsRow B 41 4 v n xs) (h0 : n ≠ 0) :
    ∃ g cap, v = .slice (some ⟨g, 0, none⟩) n cap ∧ n ≤ cap ∧ cap ≤ maxLen ∧ ∀ (j : Nat) (u : Value), xs[j]? = some u → w.cell? ⟨g, j, none⟩ = some u := by
  rcases h.2 with ⟨rfl, h1⟩ | ⟨g, cap, cur, rfl, hbg, hg, hnc, hcm, hcs, htake⟩
  · exact absurd h1 h0
  · refine ⟨g, cap, rfl, hnc, hcm, fun j u hj => ?_⟩
    have := h.cells (g := g) rfl j u hj
    rwa [Addr.add_lit, Nat.zero_add] at this

abbrev tx (s : ByteArray) : V := ⟨4, 0, s, 0⟩

theorem tx_kind {s : ByteArray} (h : s.size ≤ 60) : Kind (tx s) := Kind.text 4 (Or.inr rfl) s h
theorem tx_ok {s : ByteArray} (h : s.size ≤ 60) : ∀ x ∈ [tx s], x.ok := by
  intro x hx
  simp at hx
  subst hx
  exact ⟨by simp, by simp, by simp, by simp, by simp only [maxLen]; omega, by simp⟩
theorem tx_all {s : ByteArray} (h : s.size ≤ 60) : [tx s].all isV = true := by simp [isV, h]

theorem enc_one (x : V) : encL [x] = encV x := by simp [encL]

theorem tx_len {s : ByteArray} (h : s.size ≤ 60) : (encL [tx s]).length ≤ 123 ∧ (encL [tx s]).length ≠ 0 := by
  rw [enc_one]
  exact ⟨encV_length _ h, by rw [encV_text 4 (Or.inr rfl)]; simp⟩

theorem kind_one {x : V} (h : Kind x) : ∀ y ∈ [x], Kind y := fun y hy => by simp at hy; subst hy; exact h

theorem rowsV_one (x y : V) : rowsV [x] [y] = cmpV x y := by
  show (if _ then _ else (0 : Int)) = _
  split
  · rfl
  · rename_i h; simpa using Eq.symm (Classical.not_not.1 h)

theorem tx_less {s t : ByteArray} (hs : s.size ≤ 60) (ht : t.size ≤ 60) : Op.bytesLess (encL [tx s]) (encL [tx t]) = Op.bytesLess s.toList t.toList := by
  have h := (less_rows [tx s] [tx t] (kind_one (tx_kind hs)) (kind_one (tx_kind ht)) rfl).1
  rw [rowsV_one] at h
  rw [h, Bool.eq_iff_iff, decide_eq_true_eq]
  exact (cmpV_text 4 0 s t 0).1

theorem toList_inj {s t : ByteArray} : s.toList = t.toList ↔ s = t := by
  rw [Go.ByteArray.toList_eq, Go.ByteArray.toList_eq]
  exact ⟨fun h => ByteArray.ext (by simpa using congrArg List.toArray h), fun h => by rw [h]⟩

/-- No value's bytes are a beginning of another one's. -/
theorem enc_begins {x y : V} (hx : Kind x) (hy : Kind y) {n : Nat} (h : (encL [y]).take n = encL [x]) : x = y := by
  rw [enc_one, enc_one] at h
  have h1 := vdec_enc hy []
  rw [List.append_nil, ← List.take_append_drop n (encV y), h, vdec_enc hx] at h1
  simp only [Option.some.injEq, Prod.mk.injEq] at h1
  exact h1.1

theorem tx_begins {s t : ByteArray} (hs : s.size ≤ 60) (ht : t.size ≤ 60) : ((encL [tx t]).take (encL [tx s]).length == encL [tx s]) = (s.toList == t.toList) := by
  rw [Bool.eq_iff_iff]
  simp only [beq_iff_eq, toList_inj]
  constructor
  · intro h
    have := enc_begins (tx_kind hs) (tx_kind ht) h
    exact congrArg V.s this
  · rintro rfl
    exact List.take_of_length_le (Nat.le_refl _)

theorem own_cut {w : World} {B g cap n : Nat} {l : List UInt8} (h : w.ownsRow B 5 1 (.slice (some ⟨g, 0, none⟩) n cap) n (bytesV l)) (k : Nat) (hk : k ≤ l.length) :
    (convert 23 9 (.slice (some ⟨g, 0, none⟩) k cap)).run Try.prog w = .ok (.string ⟨(l.take k).toArray⟩) w := by
  have := run_convert_bytes_back (P := Try.prog) w 23 9 5 ⟨g, 0, none⟩ cap (l.take k) Try.underlying23 Try.underlying5 Try.underlying9 (fun j hj => by
    rw [List.length_take] at hj
    exact h.cells (g := g) rfl j _ (by simp [bytesV, List.getElem?_eq_getElem (show j < l.length by omega)]))
  rwa [List.length_take, Nat.min_eq_left hk] at this

set_option maxRecDepth 1000000 in
set_option maxHeartbeats 1000000 in
theorem codeTexts_any (s t : ByteArray) (W : World) :
    Calls Try.prog 6 #[.string s, .string t] W fun e w' => e = .returned (.bool true) ∧ Below W.heap.size W w' := by
  go_enter Try.func6, Try.ntmps6
  go_wp2_with fail
  refine (known_any W).mono ?_
  rintro e w1 ⟨rfl, hs1⟩
  have HS1 := Lib.hid hs1; clear hs1
  by_cases hs : (s.size : Int) > 60
  · go_wp2_with fail
    go_ret
    exact ⟨rfl, HS1.out.to_below⟩
  by_cases ht : (t.size : Int) > 60
  · go_wp2_with fail
    go_ret
    exact ⟨rfl, HS1.out.to_below⟩
  have h60 : s.size ≤ 60 := by omega
  have g60 : t.size ≤ 60 := by omega
  go_wp2_with fail
  refine (put_yes (readV_one w1 (tx s)) (tx_ok h60) (by simp) (tx_all h60)).mono ?_
  rintro e w2 ⟨x, rfl, hox, hs2⟩
  have hs12 := (HS1.out.alloc (tx s).obj).trans hs2 (fun _ _ h => h)
  have HS2 := Lib.hid hs12; have HX := Lib.hid hox; clear hs2 hs12 hox HS1
  go_wp2_with fail
  refine (put_yes (readV_one w2 (tx t)) (tx_ok g60) (by simp) (tx_all g60)).mono ?_
  rintro e w3 ⟨y, rfl, hoy, hs3⟩
  have hs23 := ((Same.refl (fun _ => False) w2).alloc (tx t).obj).trans hs3 (fun _ _ h => h)
  have hox := hs23.row HX.out (fun _ _ => id)
  have HS3 := Lib.hid (HS2.out.trans hs23 (fun _ _ h => h))
  have HX3 := Lib.hid hox; have HY3 := Lib.hid hoy
  clear hs3 hs23 HX HS2 hox hoy
  go_wp2_with fail
  refine (get_reads (RD.own HX3.out) (by have := (tx_len h60).1; omega)).mono ?_
  rintro e w4 ⟨hs4, hsay⟩
  rw [rows_enc [tx s] (kind_one (tx_kind h60))] at hsay
  obtain ⟨v, rfl, hov⟩ := hsay
  obtain ⟨gv, capv, rfl, hv1, hv2, hcell⟩ := own_sliceV hov (by simp)
  have cs := hcell 2 (.string s) rfl
  have hox := hs4.row HX3.out (fun _ _ => id)
  have hoy := hs4.row HY3.out (fun _ _ => id)
  have hs5 := HS3.out.trans hs4 (fun _ _ h => h)
  obtain ⟨LX, hLX⟩ : ∃ l, l = encL [tx s] := ⟨_, rfl⟩
  obtain ⟨LY, hLY⟩ : ∃ l, l = encL [tx t] := ⟨_, rfl⟩
  have hlx := tx_len h60
  have hly := tx_len g60
  have hless := tx_less h60 g60
  have hbeg := tx_begins h60 g60
  rw [← hLX] at hox hlx hless hbeg
  rw [← hLY] at hoy hly hless hbeg
  obtain ⟨gx, capx, rfl, hx1, hx2⟩ := own_slice hox hlx.2
  obtain ⟨gy, capy, rfl, hy1, hy2⟩ := own_slice hoy hly.2
  have hdx : ∀ n, (w4.drewN n).ownsRow _ 5 1 (.slice (some ⟨gx, 0, none⟩) LX.length capx) LX.length (bytesV LX) := fun _ => hox
  have hdy : ∀ n, (w4.drewN n).ownsRow _ 5 1 (.slice (some ⟨gy, 0, none⟩) LY.length capy) LY.length (bytesV LY) := fun _ => hoy
  have hcx0 := own_string hox
  have hcy0 := own_string hoy
  have hcx := fun n => own_string (hdx n)
  have hcy := fun n => own_string (hdy n)
  obtain ⟨X, hX⟩ : ∃ X : ByteArray, X = ⟨LX.toArray⟩ := ⟨_, rfl⟩
  obtain ⟨Y, hY⟩ : ∃ Y : ByteArray, Y = ⟨LY.toArray⟩ := ⟨_, rfl⟩
  have tX : X.toList = LX := by rw [hX, Go.ByteArray.toList_eq]
  have tY : Y.toList = LY := by rw [hY, Go.ByteArray.toList_eq]
  rw [← hX] at hcx hcx0
  rw [← hY] at hcy hcy0
  rw [← tX, ← tY] at hless
  have HS5 := Lib.hid hs5; have HLX := Lib.hid hLX; have HLY := Lib.hid hLY; have HDY := Lib.hid hdy; have HOY := Lib.hid hoy; have HTX := Lib.hid tX; have HBEG := Lib.hid hbeg
  have hlx2 : LX.length ≤ 123 := hlx.1
  have hly2 : LY.length ≤ 123 := hly.1
  unfold maxLen at hx2 hy2 hv2
  clear hs4 hs5 hLX hLY hX hY hdx hdy hox hoy hov tX tY hcell hlx hly HX3 HY3 HS3 hbeg hs ht
  by_cases hle : LX.length ≤ LY.length
  · have hct := fun n => own_cut (HDY.out n) LX.length hle
    obtain ⟨Z, hZ⟩ : ∃ Z : ByteArray, Z = ⟨(LY.take LX.length).toArray⟩ := ⟨_, rfl⟩
    have hZX : (Z.toList == X.toList) = (s.toList == t.toList) := by rw [hZ, HTX.out, Go.ByteArray.toList_eq]; exact HBEG.out
    rw [← hZ] at hct
    have hd : decide ((LX.length : Int) ≤ (LY.length : Int)) = true := by simp; omega
    have hb1 : LX.length ≤ capy := by omega
    have hb2 : (LX.length : Int) ≤ (capy : Int) := by omega
    clear hZ HBEG HDY HOY HTX
    go_wp2_with fail
    go_quiet (fail)
    go_wp2_with fail
    go_ret
    exact ⟨rfl, (HS5.out.drewN _).to_below⟩
  · have hne : (s.toList == t.toList) = false := by
      rw [beq_eq_false_iff_ne]
      intro h
      rw [toList_inj] at h
      subst h
      rw [HLX.out, HLY.out] at hle
      exact hle (Nat.le_refl _)
    have hd : decide ((LX.length : Int) ≤ (LY.length : Int)) = false := by simp; omega
    clear HBEG HDY HOY HTX
    go_wp2_with fail
    go_quiet (fail)
    go_wp2_with fail
    go_ret
    exact ⟨rfl, (HS5.out.drewN _).to_below⟩

end Go.Proofs.Ytmdkfbbagjcboaa
