/-
  The document's answer: Get reads a row. Conditions: none on inputs but a bound of the length.
-/
import Derived.Test.YtmdkfbbagjcboaaCodeRefVal
import Derived.Test.YtmdkfbbagjcboaaCodeKnown
namespace Go.Proofs.Ytmdkfbbagjcboaa
open Go.RowKit

def RGetSays (w : World) (l : List UInt8) (e : Ending) (w' : World) : Prop :=
  Same (fun _ => False) w w' ∧ match rows l with
    | none => e = .returned (.tuple #[.slice none 0 0, .int .i64 20])
    | some L => ∃ v, e = .returned (.tuple #[v, .int .i64 0]) ∧ w'.ownsRow w.heap.size 41 4 v L.length (vals L)

theorem rgetSays_none {w w' : World} {l : List UInt8} (h : rows l = none) (hs : Same (fun _ => False) w w') : RGetSays w l (.returned (.tuple #[.slice none 0 0, .int .i64 20])) w' := by
  unfold RGetSays; rw [h]; exact ⟨hs, rfl⟩

theorem rgetSays_some {w w' : World} {l : List UInt8} {L : List V} {v : Value} (h : rows l = some L) (hs : Same (fun _ => False) w w') (ho : w'.ownsRow w.heap.size 41 4 v L.length (vals L)) :
    RGetSays w l (.returned (.tuple #[v, .int .i64 0])) w' := by
  unfold RGetSays; rw [h]; exact ⟨hs, v, rfl, ho⟩

theorem rget_nil (w : World) (cap : Nat) : Calls Try.prog 13 #[.slice none 0 cap] w fun e w' => RGetSays w [] e w' := by
  go_enter Try.func13, Try.ntmps13
  go_wp2_with fail
  refine wp_loop_rounds 1 ?_
  rw [rounds_succ]
  go_wp2_with fail
  go_ret2
  exact rgetSays_some rows_nil (Same.refl _ _) (World.ownsRow_nil _ _ _ _)

set_option maxRecDepth 10000000 in
set_option maxHeartbeats 4000000 in
theorem rget_any {w : World} {b0 off cap : Nat} {l : List UInt8} (h : RB w b0 off cap l) (hb : b0 < w.heap.size) (hl : l.length ≤ 1000000) :
    Calls Try.prog 13 #[.slice (some ⟨b0, off, none⟩) l.length cap] w fun e w' => RGetSays w l e w' := by
  have hle := h.le
  have hmx := h.mx
  unfold maxLen at hmx
  have HH := Lib.hid h; clear h
  go_enter Try.func13, Try.ntmps13
  go_wp2_with fail
  go_loopg [4, 5] l.length (fun r out i wr => ∃ (k : Nat) (done : List V), l.length ≤ k + r ∧ k ≤ l.length ∧ done.length ≤ k ∧ i = .int .i64 (k : Int) ∧ Same (fun _ => False) w wr ∧ wr.ownsRow w.heap.size 41 4 out done.length (vals done) ∧
    rows l = (rows (l.drop k)).map (done ++ ·))
  case atStart => exact ⟨0, [], by omega, by omega, Nat.le_refl _, rfl, Same.refl _ _, World.ownsRow_nil _ _ _ _, by simp⟩
  case round =>
    obtain ⟨k, done, hr, hk, hdl, rfl, hs, hown, hrows⟩ := hrel
    have hsz := hs.size
    have HS := Lib.hid hs; have HO := Lib.hid hown; have HW := Lib.hid hrows; have HR := Lib.hid hr
    clear hs hown hrows hr
    by_cases hkl : k = l.length
    · have hw : rows l = some done := by rw [HW.out, hkl, List.drop_length, rows_nil]; simp
      have HW2 := Lib.hid hw; clear hw
      have hlt : ¬ (k : Int) < (l.length : Int) := by omega
      clear hkl
      go_wp2_with fail
      go_ret2
      exact rgetSays_some HW2.out HS.out HO.out
    · have hkl2 : k < l.length := by omega
      have hlt : (k : Int) < (l.length : Int) := by omega
      have hcap : cap ≠ k := by omega
      have hd := (HH.out.same HS.out hb id).drop k
      rw [if_neg hcap] at hd
      have hval := rval_any hd (Nat.lt_of_lt_of_le hb HS.out.size) (fun e => by have := congrArg List.length e; simp at this; omega) (by rw [List.length_drop]; omega)
      rw [List.length_drop] at hval
      have HVAL := Lib.hid hval
      clear hd hval hkl
      go_wp2_with fail
      refine HVAL.out.mono ?_
      rintro e w1 ⟨hs1, hsay⟩
      unfold RSays at hsay
      cases hv : vdec (l.drop k) with
      | none =>
        rw [hv] at hsay
        obtain ⟨x, rfl⟩ := hsay
        have hw : rows l = none := by rw [HW.out, rows_none (fun e => by rw [e] at hv; have := congrArg List.length e; simp at this; omega) hv]; rfl
        have hs2 := HS.out.trans hs1 (fun _ _ h => h)
        have HWN := Lib.hid hw; have HS3 := Lib.hid hs2
        clear hs1 hv hw hs2 HVAL
        go_wp2_with fail
        go_ret2
        exact rgetSays_none HWN.out (HS3.out.alloc _)
      | some p =>
        obtain ⟨⟨xk, xi, xs, xf⟩, t⟩ := p
        rw [hv] at hsay
        obtain ⟨n, rfl, hn0, hn, ht⟩ := hsay
        simp only at ht
        rw [List.length_drop] at hn
        have hw : rows l = (rows (l.drop (k + n))).map ((done ++ [⟨xk, xi, xs, xf⟩]) ++ ·) := by
          rw [HW.out, rows_some hv, ht, List.drop_drop, Option.map_map]
          congr 1
          funext z
          simp
        have hs2 := HS.out.trans hs1 (fun _ _ h => h)
        have hown1 := hs1.row HO.out (fun _ _ => id)
        have hsz1 := hs1.size
        have hnz : ((n : Int) == 0) = false := by simp; omega
        have hnz2 : ¬ (n : Int) = 0 := by omega
        have HOW := Lib.hid hown1; have HS3 := Lib.hid hs2; have HW3 := Lib.hid hw
        clear hs1 hown1 hs2 hw hv ht HW HS HO HVAL
        go_wp2_with (at_builtin; refine wpList_append_elem (w1.alloc (.cells #[.int .i64 xk, .int .i64 xi, .string xs, .float .f64 xf] 41)) rfl (.tmp 21) (.tmp 23) 22 rfl w.heap.size 41 (.agg #[.int .i64 0, .int .i64 0, .string ⟨#[]⟩, .float .f64 0]) 4 40 Try.underlying22 value_info rfl (by decide) u4 done.length (vals done) rfl (HOW.out.alloc _) [.int .i64 xk, .int .i64 xi, .string xs, .float .f64 xf] 1 ?c5 rfl ?c1 ?c2 ?c3 ?c4 ?_)
        case c5 => simp [go_sem]
        case c1 => intro u hu; simp at hu; rcases hu with rfl | rfl | rfl | rfl <;> rfl
        case c2 => unfold maxLen; omega
        case c3 => omega
        case c4 => simp; omega
        intro g cap3 w4 hown hgrow hwhere hgl2 hsl2
        have hnb : ∀ k, u4.ownBlock = some k → w.heap.size ≤ k := fun k hk => (HOW.out.lt k hk).1
        have hsg : Same (fun k => u4.ownBlock = some k) w1 w4 := (((Same.refl (fun k => u4.ownBlock = some k) w1).alloc _).grown hgrow (fun k hk _ => hk))
        have hs4 := HS3.out.trans hsg (fun k hk he => by have := hnb k he; omega)
        have hown4 : w4.ownsRow w.heap.size 41 4 (.slice (some ⟨g, 0, none⟩) (done.length + 1) cap3) (done ++ [(⟨xk, xi, xs, xf⟩ : V)]).length (vals (done ++ [(⟨xk, xi, xs, xf⟩ : V)])) := by
          rw [vals_snoc, List.length_append]; exact hown
        have HS4 := Lib.hid hs4; have HOWN4 := Lib.hid hown4
        clear hown hgrow hwhere hnb hsg hs4 hown4
        go_wp2_with fail
        go_roundg (gk - 1)
        case measure => have := HR.out; omega
        case rel => exact ⟨k + n, done ++ [⟨xk, xi, xs, xf⟩], (by have := HR.out; omega), by omega, by simp; omega, by go_num, HS4.out, HOWN4.out, HW3.out⟩

theorem rget_reads {w : World} {v : Value} {l : List UInt8} (h : RD w v l) (hl : l.length ≤ 1000000) : Calls Try.prog 13 #[v] w fun e w' => RGetSays w l e w' := by
  rcases h with ⟨cap, rfl, rfl⟩ | ⟨b0, off, cap, rfl, h2, h3⟩
  · exact rget_nil w cap
  · exact rget_any h2 h3 hl

end Go.Proofs.Ytmdkfbbagjcboaa
