/-
  CodeOrder: bytes of rows stand as the rows do, and come back. Conditions: none.
-/
import Derived.Test.YtmdkfbbagjcboaaCodeApp
namespace Go.Proofs.Ytmdkfbbagjcboaa
open Go.RowKit

theorem few_split {L : List V} {m : Int} : (fewV L && decide ((L.length : Int) ≤ m)) = false ∨ (fewV L && decide ((L.length : Int) ≤ m)) = true := by
  cases (fewV L && decide ((L.length : Int) ≤ m)) <;> simp

theorem rowsV_same : ∀ (L : List V), (∀ x ∈ L, Kind x) → rowsV L L = 0
  | [], _ => rfl
  | x :: L, h => by
    show (if cmpV x x ≠ 0 then cmpV x x else rowsV L L) = 0
    have hc : cmpV x x = 0 := by unfold cmpV; simp [cmpF_same]
    rw [if_neg (by simpa using hc)]
    exact rowsV_same L fun y hy => h y (by simp [hy])

theorem vals_same {w : World} {v u : Value} {A : List V} (h : ReadV w v A) (g : ReadV w u A) (hok : ∀ x ∈ A, x.ok) (hk : ∀ x ∈ A, Kind x) (hn : A.length ≤ maxLen) :
    Calls Try.prog 14 #[v, u] w fun e w' => e = .returned (.bool true) ∧ Same (fun _ => False) w w' :=
  (vals_any h g hok hok hn hn).mono fun e w' ⟨h1, h2⟩ => ⟨by rw [h1, rowsV_same A hk]; simp, h2⟩

theorem Same.narrow {F : Nat → Prop} {w w' : World} (h : Same F w w') (hF : ∀ k, k < w.heap.size → ¬ F k) : Same (fun _ => False) w w' := ⟨h.os, h.tape, h.output, h.size, fun k hk _ => h.block k hk (hF k hk)⟩

set_option maxRecDepth 1000000 in
set_option maxHeartbeats 4000000 in
theorem codeOrder_any {W : World} {v u : Value} {A B : List V} (hr : ReadV W v A) (gr : ReadV W u B) (hok : ∀ x ∈ A, x.ok) (gok : ∀ x ∈ B, x.ok) (hn : A.length ≤ maxLen) (gn : B.length ≤ maxLen) :
    Calls Try.prog 4 #[v, u] W fun e w' => e = .returned (.bool true) ∧ Below W.heap.size W w' := by
  have HR := Lib.hid hr; have GR := Lib.hid gr; have HOK := Lib.hid hok; have GOK := Lib.hid gok; have HN := Lib.hid hn; have GN := Lib.hid gn
  clear hr gr hok gok hn gn
  go_enter Try.func4, Try.ntmps4
  go_wp2_with fail
  refine (known_any W).mono ?_
  rintro e w1 ⟨rfl, hs1⟩
  have HS1 := Lib.hid hs1; clear hs1
  go_wp2_with fail
  refine (few_any (HR.out.same HS1.out) HOK.out HN.out 12).mono ?_
  rintro e w1 ⟨rfl, rfl⟩
  rcases few_split (L := A) (m := 12) with hf | hf
  · rw [hf]
    clear hf
    go_wp2_with fail
    go_ret
    exact ⟨rfl, HS1.out.to_below⟩
  have hA := few_many hf
  rw [hf]
  clear hf
  go_wp2_with fail
  refine (few_any (GR.out.same HS1.out) GOK.out GN.out 12).mono ?_
  rintro e w1 ⟨rfl, rfl⟩
  rcases few_split (L := B) (m := 12) with hf | hf
  · rw [hf]
    clear hf
    go_wp2_with fail
    go_ret
    exact ⟨rfl, HS1.out.to_below⟩
  have hB := few_many hf
  rw [hf]
  clear hf
  go_wp2_with fail
  cases hv : A.all isV with
  | false =>
    refine (put_no (HR.out.same HS1.out) HOK.out (by omega) hv).mono ?_
    rintro e w2 ⟨rfl, hs2⟩
    have HS2 := Lib.hid (HS1.out.trans hs2 (fun _ _ h => h)); clear hs2 hv
    go_wp2_with fail
    cases hv : B.all isV with
    | false =>
      refine (put_no (GR.out.same HS2.out) GOK.out (by omega) hv).mono ?_
      rintro e w3 ⟨rfl, hs3⟩
      have HS3 := Lib.hid (HS2.out.trans hs3 (fun _ _ h => h)); clear hs3 hv
      go_wp2_with fail
      go_ret
      exact ⟨rfl, HS3.out.to_below⟩
    | true =>
      refine (put_yes (GR.out.same HS2.out) GOK.out (by omega) hv).mono ?_
      rintro e w3 ⟨y, rfl, _, hs3⟩
      have HS3 := Lib.hid (HS2.out.trans hs3 (fun _ _ h => h)); clear hs3 hv
      go_wp2_with fail
      go_ret
      exact ⟨rfl, HS3.out.to_below⟩
  | true =>
    refine (put_yes (HR.out.same HS1.out) HOK.out (by omega) hv).mono ?_
    rintro e w2 ⟨x, rfl, hox, hs2⟩
    have HS2 := Lib.hid (HS1.out.trans hs2 (fun _ _ h => h)); have HX := Lib.hid hox; have KA := Lib.hid (Kind.all HOK.out hv)
    clear hs2 hv hox
    go_wp2_with fail
    cases hv : B.all isV with
    | false =>
      refine (put_no (GR.out.same HS2.out) GOK.out (by omega) hv).mono ?_
      rintro e w3 ⟨rfl, hs3⟩
      have HS3 := Lib.hid (HS2.out.trans hs3 (fun _ _ h => h)); clear hs3 hv
      go_wp2_with fail
      go_ret
      exact ⟨rfl, HS3.out.to_below⟩
    | true =>
      refine (put_yes (GR.out.same HS2.out) GOK.out (by omega) hv).mono ?_
      rintro e w3 ⟨y, rfl, hoy, hs3⟩
      have HS3 := Lib.hid (HS2.out.trans hs3 (fun _ _ h => h)); have HY := Lib.hid hoy; have KB := Lib.hid (Kind.all GOK.out hv)
      have HX3 := Lib.hid (hs3.row HX.out (fun _ _ => id))
      clear hs3 hv hoy HX
      go_wp2_with fail
      have hla := encL_length A (fun z hz => by have := KA.out z hz; cases this with | text k hk s hs => exact hs | _ => simp [ByteArray.size])
      have hlb := encL_length B (fun z hz => by have := KB.out z hz; cases this with | text k hk s hs => exact hs | _ => simp [ByteArray.size])
      refine (get_reads (RD.own HX3.out) (by omega)).mono ?_
      rintro e w4 ⟨hs4, hsay⟩
      rw [rows_enc A KA.out] at hsay
      obtain ⟨l, rfl, hol⟩ := hsay
      have HS4 := Lib.hid (HS3.out.trans hs4 (fun _ _ h => h)); have HL := Lib.hid (ReadV.own hol)
      have HX4 := Lib.hid (hs4.row HX3.out (fun _ _ => id)); have HY4 := Lib.hid (hs4.row HY.out (fun _ _ => id))
      clear hs4 hol HX3 HY
      go_wp2_with (at_builtin; refine wpList_append_bytes w4 rfl (.const (.slice none 0 0)) (.tmp 46) rfl w4.heap.size (.slice none 0 0) [] rfl (World.ownsRow_nil _ _ _ _) x (encL A) rfl (RD.own HX4.out) ?c1 (Nat.le_refl _) ?_)
      case c1 => simp; omega
      intro z w5 hb5
      have hs45 : Same (fun _ => False) w4 w5 := hb5.same.narrow (fun k _ e => by cases e)
      have HB5 := Lib.hid hb5; have HY5 := Lib.hid (hs45.row HY4.out (fun _ _ => id))
      have hsz5 := hs45.size
      clear hb5 hs45
      go_wp2_with (at_builtin; refine wpList_append_bytes w5 rfl (.tmp 47) (.tmp 48) rfl w4.heap.size z (encL A) rfl HB5.out.own y (encL B) rfl (RD.own HY5.out) ?c2 hsz5 ?_)
      case c2 => omega
      intro z2 w6 hb6
      have hb46 := HB5.out.next hb6
      have hs46 : Same (fun _ => False) w4 w6 := hb46.same.narrow (fun k _ e => by cases e)
      have hoz := hb46.own
      rw [← encL_append] at hoz
      have HZ := Lib.hid hoz
      have HS6 := Lib.hid (HS4.out.trans hs46 (fun _ _ h => h)); have HL6 := Lib.hid (HL.out.same hs46)
      have HX6 := Lib.hid (hs46.row HX4.out (fun _ _ => id)); have HY6 := Lib.hid (hs46.row HY4.out (fun _ _ => id))
      clear hb6 hb46 hs46 hoz HB5 HY5 hsz5 HX4 HY4 HL
      go_wp2_with fail
      refine (get_reads (RD.own HZ.out) (by rw [encL_append, List.length_append]; omega)).mono ?_
      rintro e w7 ⟨hs7, hsay⟩
      rw [rows_enc (A ++ B) (fun q hq => by rw [List.mem_append] at hq; exact hq.elim (KA.out q) (KB.out q))] at hsay
      obtain ⟨bo, rfl, hob⟩ := hsay
      have HS7 := Lib.hid (HS6.out.trans hs7 (fun _ _ h => h)); have HL7 := Lib.hid (HL6.out.same hs7); have HBO := Lib.hid (ReadV.own hob)
      have HX7 := Lib.hid (hs7.row HX6.out (fun _ _ => id)); have HY7 := Lib.hid (hs7.row HY6.out (fun _ _ => id))
      clear hs7 hob HX6 HY6 HL6 HZ
      go_wp2_with fail
      refine (vals_same HL7.out (HR.out.same HS7.out) HOK.out KA.out HN.out).mono ?_
      rintro e w8 ⟨rfl, hs8⟩
      have HS8 := Lib.hid (HS7.out.trans hs8 (fun _ _ h => h)); have HBO8 := Lib.hid (HBO.out.same hs8)
      have HX8 := Lib.hid (hs8.row HX7.out (fun _ _ => id)); have HY8 := Lib.hid (hs8.row HY7.out (fun _ _ => id))
      clear hs8 HX7 HY7 HL7 HBO
      go_wp2_with (at_builtin; refine wpList_append_vals w8 rfl (.const (.slice none 0 0)) (.tmp 67) rfl w8.heap.size (.slice none 0 0) 0 [] rfl (World.ownsRow_nil _ _ _ _) v A rfl (HR.out.same HS8.out) ?c3 (Nat.le_refl _) ?_)
      case c3 => omega
      intro z3 w9 h1 h2 h3
      have hs89 : Same (fun _ => False) w8 w9 := h2.narrow (fun k _ e => by cases e)
      have HZ3 := Lib.hid h1; have HS89 := Lib.hid hs89; have GR9 := Lib.hid (GR.out.same (HS8.out.trans hs89 (fun _ _ h => h)))
      have hsz9 := hs89.size
      have HAT := Lib.hid h3
      clear h1 h2 hs89 h3
      go_wp2_with (at_builtin; refine wpList_append_vals w9 rfl (.tmp 68) (.tmp 69) rfl w8.heap.size z3 A.length (vals A) rfl HZ3.out u B rfl GR9.out ?c4 hsz9 ?_)
      case c4 => omega
      intro z4 w10 h1 h2 h3
      have hs810 : Same (fun _ => False) w8 w10 := (HS89.out.trans h2 (fun k hk he => by
        have := (HZ3.out.lt k he).1
        omega))
      have hoz : w10.ownsRow w8.heap.size 41 4 z4 (A ++ B).length (vals (A ++ B)) := by
        rw [List.length_append]
        have e : vals (A ++ B) = vals A ++ vals B := by simp [vals]
        rw [e]
        exact h1
      have HZ4 := Lib.hid (ReadV.own hoz)
      have HS10 := Lib.hid (HS8.out.trans hs810 (fun _ _ h => h)); have HBO10 := Lib.hid (HBO8.out.same hs810)
      have HX10 := Lib.hid (hs810.row HX8.out (fun _ _ => id)); have HY10 := Lib.hid (hs810.row HY8.out (fun _ _ => id))
      have hokAB : ∀ q ∈ A ++ B, q.ok := fun q hq => by rw [List.mem_append] at hq; exact hq.elim (HOK.out q) (GOK.out q)
      have hkAB : ∀ q ∈ A ++ B, Kind q := fun q hq => by rw [List.mem_append] at hq; exact hq.elim (KA.out q) (KB.out q)
      have hnAB : (A ++ B).length ≤ maxLen := by rw [List.length_append]; unfold maxLen; omega
      have HV := Lib.hid (vals_same HBO10.out HZ4.out hokAB hkAB hnAB)
      clear h1 h2 h3 hs810 hoz HX8 HY8 HBO8 HZ3 HS89 GR9 HAT hokAB hkAB hnAB
      go_wp2_with fail
      refine HV.out.mono ?_
      rintro e w11 ⟨rfl, hs11⟩
      have HS11 := Lib.hid (HS10.out.trans hs11 (fun _ _ h => h))
      have HX11 := Lib.hid (hs11.row HX10.out (fun _ _ => id)); have HY11 := Lib.hid (hs11.row HY10.out (fun _ _ => id))
      clear hs11 HX10 HY10 HBO10 HZ4 HV
      go_wp2_with fail
      refine (rows_any (HR.out.same HS11.out) (GR.out.same HS11.out) HOK.out GOK.out HN.out GN.out).mono ?_
      rintro e w12 ⟨rfl, hs12⟩
      have HS12 := Lib.hid (HS11.out.trans hs12 (fun _ _ h => h))
      have hcx := own_string (hs12.row HX11.out (fun _ _ => id))
      have hcy := own_string (hs12.row HY11.out (fun _ _ => id))
      obtain ⟨ao, cap, rfl, _⟩ := HR.out
      obtain ⟨bo, dap, rfl, _⟩ := GR.out
      have HLR := Lib.hid (less_rows A B KA.out KB.out)
      obtain ⟨X, hX⟩ : ∃ X : ByteArray, X = ⟨(encL A).toArray⟩ := ⟨_, rfl⟩
      obtain ⟨Y, hY⟩ : ∃ Y : ByteArray, Y = ⟨(encL B).toArray⟩ := ⟨_, rfl⟩
      obtain ⟨c, hc⟩ : ∃ c, c = rowsV A B := ⟨_, rfl⟩
      rw [← hX] at hcx
      rw [← hY] at hcy
      rw [← hc] at HLR ⊢
      have HXY := Lib.hid (And.intro hX hY)
      clear hs12 HX11 HY11 HS11 hla hlb hX hY hc
      by_cases hlen : A.length = B.length
      · obtain ⟨hl, he⟩ := HLR.out hlen
        have hlXY : Op.bytesLess X.toList Y.toList = decide (c < 0) := by rw [HXY.out.1, HXY.out.2, Go.ByteArray.toList_eq, Go.ByteArray.toList_eq]; exact hl
        have heXY : (X.toList == Y.toList) = (c == 0) := by
          rw [HXY.out.1, HXY.out.2, Go.ByteArray.toList_eq, Go.ByteArray.toList_eq, Bool.eq_iff_iff]
          simp only [beq_iff_eq]
          exact he
        have hlen2 : (A.length : Int) = B.length := by omega
        have hlen3 : ((A.length : Int) != (B.length : Int)) = false := by simp [hlen]
        have HE := Lib.hid heXY
        clear hl he heXY HXY HLR hlen
        go_wp2_with fail
        go_ret
        exact ⟨ret_bool (by rw [HE.out]; simp), HS12.out.to_below⟩
      · have hlen2 : ¬ (A.length : Int) = B.length := by omega
        have hlen3 : ((A.length : Int) != (B.length : Int)) = true := by simp; omega
        clear HXY HLR hlen
        go_wp2_with fail
        go_ret
        exact ⟨rfl, HS12.out.to_below⟩

end Go.Proofs.Ytmdkfbbagjcboaa
