/-
  Package code, told of memory: Get reads a row. Conditions: none on inputs but a bound of the length.
-/
import Derived.Test.YtmdkfbbagjcboaaCodeReadS
namespace Go.Proofs.Ytmdkfbbagjcboaa
open Go.RowKit

theorem vdec_len {l t : List UInt8} {x : V} (h : vdec l = some (x, t)) : t.length < l.length := by
  unfold vdec at h
  split at h
  · cases h
  · rename_i k r
    split at h
    · split at h
      · cases h
      · cases h; simp; omega
    · split at h
      · split at h
        · cases h
        · split at h
          · cases h; simp; omega
          · cases h
      · split at h
        · split at h
          · cases h
          · cases h; simp; omega
        · split at h
          · split at h
            · cases h
            · rename_i p hp
              split at h
              · cases h
                have := tdec_len _ _ _ hp
                simp; omega
              · cases h
          · cases h

/-- A row that is read off bytes. -/
def rdec : Nat → List UInt8 → Option (List V)
  | _, [] => some []
  | 0, _ :: _ => none
  | n + 1, b :: r => match vdec (b :: r) with
    | none => none
    | some p => (rdec n p.2).map (p.1 :: ·)

def rows (l : List UInt8) : Option (List V) := rdec l.length l

theorem rdec_fuel : ∀ (n m : Nat) (l : List UInt8), l.length ≤ n → l.length ≤ m → rdec n l = rdec m l
  | n, m, [], _, _ => by cases n <;> cases m <;> rfl
  | 0, _, b :: r, h, _ => by simp at h
  | _, 0, b :: r, _, h => by simp at h
  | n + 1, m + 1, b :: r, h1, h2 => by
    unfold rdec
    cases hv : vdec (b :: r) with
    | none => rfl
    | some p =>
      have := vdec_len (x := p.1) (t := p.2) hv
      simp only
      rw [rdec_fuel n m p.2 (by simp at h1 this; omega) (by simp at h2 this; omega)]

theorem rows_nil : rows [] = some [] := rfl
theorem rows_none {l : List UInt8} (h0 : l ≠ []) (h : vdec l = none) : rows l = none := by
  cases l with
  | nil => exact absurd rfl h0
  | cons b r => show rdec (r.length + 1) (b :: r) = none; rw [rdec, h]
theorem rows_some {l t : List UInt8} {x : V} (h : vdec l = some (x, t)) : rows l = (rows t).map (x :: ·) := by
  have hl := vdec_len h
  cases l with
  | nil => cases h
  | cons b r =>
    show rdec (r.length + 1) (b :: r) = (rdec t.length t).map (x :: ·)
    rw [rdec, h, ← rdec_fuel r.length t.length t (by simp at hl; omega) (Nat.le_refl _)]

/-- What a row's values hold, cell after cell. -/
def vals (L : List V) : List Value := L.flatMap V.cells

theorem vals_snoc (L : List V) (x : V) : vals (L ++ [x]) = vals L ++ x.cells := by simp [vals]

theorem value_info : (Try.prog.info? 41).map (fun i => (i.zero, i.size, i.bytes)) = some (some (.agg #[.int .i64 0, .int .i64 0, .string ⟨#[]⟩, .float .f64 0]), 4, 40) := by kernel_rfl

def GetSays (w : World) (l : List UInt8) (e : Ending) (w' : World) : Prop :=
  Same (fun _ => False) w w' ∧ match rows l with
    | none => e = .returned (.tuple #[.slice none 0 0, .int .i64 20])
    | some L => ∃ v, e = .returned (.tuple #[v, .int .i64 0]) ∧ w'.ownsRow (w.heap.size + 1) 41 4 v L.length (vals L)

theorem getSays_none {w w' : World} {l : List UInt8} (h : rows l = none) (hs : Same (fun _ => False) w w') : GetSays w l (.returned (.tuple #[.slice none 0 0, .int .i64 20])) w' := by
  unfold GetSays; rw [h]; exact ⟨hs, rfl⟩

theorem getSays_some {w w' : World} {l : List UInt8} {L : List V} {v : Value} (h : rows l = some L) (hs : Same (fun _ => False) w w') (ho : w'.ownsRow (w.heap.size + 1) 41 4 v L.length (vals L)) :
    GetSays w l (.returned (.tuple #[v, .int .i64 0])) w' := by
  unfold GetSays; rw [h]; exact ⟨hs, v, rfl, ho⟩

theorem get_nil (w : World) (cap : Nat) : Calls Try.prog 12 #[.slice none 0 cap] w fun e w' => GetSays w [] e w' := by
  have hs : Same (fun _ => False) w (w.alloc (.cells #[.slice none 0 cap] 51)) := (Same.refl _ w).alloc _
  have HS := Lib.hid hs; clear hs
  go_enter Try.func12, Try.ntmps12
  go_wp2_with fail
  refine wp_loop_rounds 1 ?_
  rw [rounds_succ]
  go_wp2_with fail
  go_ret2
  exact getSays_some rows_nil HS.out (World.ownsRow_nil _ _ _ _)

set_option maxRecDepth 10000000 in
set_option maxHeartbeats 4000000 in
theorem get_any {w : World} {b0 off cap : Nat} {l : List UInt8} (h : RB w b0 off cap l) (hb : b0 < w.heap.size) (hl : l.length ≤ 1000000) :
    Calls Try.prog 12 #[.slice (some ⟨b0, off, none⟩) l.length cap] w fun e w' => GetSays w l e w' := by
  have hs : Same (fun _ => False) w (w.alloc (.cells #[.slice (some ⟨b0, off, none⟩) l.length cap] 51)) := (Same.refl _ w).alloc _
  have hrd : Rd (w.alloc (.cells #[.slice (some ⟨b0, off, none⟩) l.length cap] 51)) w.heap.size b0 l :=
    ⟨off, cap, One.new _ _ _, h.same hs hb id, Nat.lt_of_lt_of_le hb hs.size, by omega⟩
  have HS := Lib.hid hs; have HRD := Lib.hid hrd; clear hs hrd h
  go_enter Try.func12, Try.ntmps12
  go_wp2_with fail
  go_loopg [5] l.length (fun r out wr => ∃ done rem, rem.length ≤ r ∧ done.length + rem.length ≤ l.length ∧ Same (fun _ => False) w wr ∧ Rd wr w.heap.size b0 rem ∧ wr.ownsRow (w.heap.size + 1) 41 4 out done.length (vals done) ∧ w.heap.size + 1 ≤ wr.heap.size ∧
    rows l = (rows rem).map (done ++ ·))
  case atStart => exact ⟨[], l, Nat.le_refl _, by simp, HS.out, HRD.out, World.ownsRow_nil _ _ _ _, by simp, by simp⟩
  case round =>
    obtain ⟨done, rem, hr, hdl, hs, hrd, hown, hsz, hrows⟩ := hrel
    obtain ⟨off2, cap2, h1, h2, h3, h4⟩ := hrd
    have hrd2 : Rd wr w.heap.size b0 rem := ⟨off2, cap2, h1, h2, h3, h4⟩
    have hle := h2.le
    have hmx := h2.mx
    unfold maxLen at hmx
    have c0 := h1.cell
    have H1 := Lib.hid h1; have HS2 := Lib.hid hs; have HRD2 := Lib.hid hrd2; have HO := Lib.hid hown; have HW := Lib.hid hrows
    clear h1 h2 hs hrd2 hown hrows
    cases rem with
    | nil =>
      clear hr
      have hw : rows l = some done := by rw [HW.out, rows_nil]; simp
      have HW2 := Lib.hid hw; clear hw
      go_wp2_with fail
      go_ret2
      exact getSays_some HW2.out HS2.out HO.out
    | cons b r =>
      have hrl : (b :: r).length ≤ 1000000 := by omega
      have hpos : (0 : Int) < ((b :: r).length : Int) := by simp
      go_wp2_with fail
      refine (value_reads HRD2.out hrl).mono ?_
      rintro e w1 ⟨hs1, hsay⟩
      unfold ValSays at hsay
      cases hv : vdec (b :: r) with
      | none =>
        rw [hv] at hsay
        obtain ⟨x, rfl⟩ := hsay
        have hw : rows l = none := by rw [HW.out, rows_none (by simp) hv]; rfl
        have hs2 := HS2.out.trans hs1 (fun k hk he => by omega)
        have HWN := Lib.hid hw; have HS3 := Lib.hid hs2
        clear hs1 hv hw hs2
        go_wp2_with fail
        go_ret2
        exact getSays_none HWN.out (HS3.out.alloc _)
      | some p =>
        obtain ⟨⟨xk, xi, xs, xf⟩, t⟩ := p
        rw [hv] at hsay
        obtain ⟨rfl, hrt⟩ := hsay
        have hw : rows l = (rows t).map ((done ++ [⟨xk, xi, xs, xf⟩]) ++ ·) := by
          rw [HW.out, rows_some hv, Option.map_map]
          congr 1
          funext z
          simp
        have hvl := vdec_len hv
        have hs2 := HS2.out.trans hs1 (fun k hk he => by omega)
        have hown1 := hs1.row HO.out (fun k hk he => by have := (HO.out.lt k hk).1; omega)
        have hsz1 := hs1.size
        have HOW := Lib.hid hown1; have HRT := Lib.hid hrt; have HS3 := Lib.hid hs2; have HW3 := Lib.hid hw; have HVL := Lib.hid hvl
        clear hs1 hown1 hrt hs2 hw hv hvl HW HRD2 H1 HS2 HO
        go_wp2_with (at_builtin; refine wpList_append_elem (w1.alloc (.cells #[.int .i64 xk, .int .i64 xi, .string xs, .float .f64 xf] 41)) rfl (.tmp 24) (.tmp 26) 22 rfl (w.heap.size + 1) 41 (.agg #[.int .i64 0, .int .i64 0, .string ⟨#[]⟩, .float .f64 0]) 4 40 Try.underlying22 value_info rfl (by decide) u5 done.length (vals done) rfl (HOW.out.alloc _) [.int .i64 xk, .int .i64 xi, .string xs, .float .f64 xf] 1 ?c5 rfl ?c1 ?c2 ?c3 ?c4 ?_)
        case c5 => simp [go_sem]
        case c1 => intro u hu; simp at hu; rcases hu with rfl | rfl | rfl | rfl <;> rfl
        case c2 => unfold maxLen; omega
        case c3 => omega
        case c4 => simp; omega
        intro g cap3 w4 hown hgrow hwhere hgl2 hsl2
        have hnb : ∀ k, u5.ownBlock = some k → w.heap.size + 1 ≤ k := fun k hk => (HOW.out.lt k hk).1
        have hsg : Same (fun k => u5.ownBlock = some k) w1 w4 := (((Same.refl (fun k => u5.ownBlock = some k) w1).alloc _).grown hgrow (fun k hk _ => hk))
        have hs4 := HS3.out.trans hsg (fun k hk he => by have := hnb k he; omega)
        have hrd4 := HRT.out.same hsg (fun he => by have := hnb _ he; omega) (fun he => by have := hnb _ he; omega)
        have hown4 : w4.ownsRow (w.heap.size + 1) 41 4 (.slice (some ⟨g, 0, none⟩) (done.length + 1) cap3) (done ++ [(⟨xk, xi, xs, xf⟩ : V)]).length (vals (done ++ [(⟨xk, xi, xs, xf⟩ : V)])) := by
          rw [vals_snoc, List.length_append]; exact hown
        have hsz4 := hsg.size
        have HS4 := Lib.hid hs4; have HRD4 := Lib.hid hrd4; have HOWN4 := Lib.hid hown4
        clear hown hgrow hwhere hnb hsg hs4 hrd4 hown4
        go_wp2_with fail
        go_roundg (gk - 1)
        case measure => simp at hr; omega
        case rel => exact ⟨done ++ [⟨xk, xi, xs, xf⟩], t, (by have := HVL.out; omega), (by have := HVL.out; simp at this ⊢; simp at hdl; omega), HS4.out, HRD4.out, HOWN4.out, (by omega), HW3.out⟩

end Go.Proofs.Ytmdkfbbagjcboaa
