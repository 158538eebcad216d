/-
  HookObserves: the observer of the statement; hook.Observe. Conditions: none but small rows.
-/
import Derived.Test.YtcbapmkipcffgaaDoorHookKnown
import Derived.Test.YtcbapmkipcffgaaDoorHCopy
import Derived.Deep.RegionHeld3
import Derived.Deep.AppendLies
import Derived.Deep.RegionLaw
namespace Go.Proofs.YtcbapmkipcffgaaDoor
open Go.RowKit Go.Extern.Stop Go.Stop Go.Extern Go.Lib
set_option maxRecDepth 1000000

theorem i64_and1 (n : Int) : bits .and .i64 n 1 = n % 2 := by
  have h1 : (BitVec.ofInt 64 1).toNat = 2 ^ 1 - 1 := by decide
  have key : (BitVec.ofInt 64 n &&& BitVec.ofInt 64 1).toNat = (n % ((2 ^ 64 : Nat) : Int)).toNat % 2 ^ 1 := by
    rw [BitVec.toNat_and, BitVec.toNat_ofInt, h1, Nat.and_two_pow_sub_one_eq_mod]
  show IntKind.i64.wrap ((BitVec.ofInt 64 n &&& BitVec.ofInt 64 1).toNat : Nat) = n % 2
  rw [key, IntKind.wrap_i64]
  omega

/-- A Change's four fields. -/
abbrev changeObj (a b : Value) : Obj := .cells #[.string ⟨#[116]⟩, .int .i64 3, a, b] 33

/-- What the statement's observer does. -/
def ObsEnd (how : Int) (e : Ending) : Prop := if how % 2 = 1 then e = .panicked [{ v := .iface 3 (.int .i64 how), recovered := false }] else e = .returned .nilIface

theorem setCell_at {W : World} {p o : Nat} {cs : Array Value} {t : TypeId} {fr : Nat × Nat} {u : Value} (h : W.heap[p]? = some (.cells cs t fr)) : (W.setCell ⟨p, o, none⟩ u).heap[p]? = some (.cells (cs.setIfInBounds o u) t fr) := by
  simp [World.setCell, Array.getElem?_modify, h]

theorem cell_in {W : World} {p o : Nat} {cs : Array Value} {t : TypeId} (h : W.heap[p]? = some (.cells cs t (0, 0))) (ho : o < cs.size) : ∃ y, W.cell? ⟨p, o, none⟩ = some y := by
  exact ⟨cs[o], by simp [World.cell?, h, ho]⟩

theorem free_in {W : World} {p o : Nat} {cs : Array Value} {t : TypeId} (h : W.heap[p]? = some (.cells cs t (0, 0))) : W.frozen? ⟨p, o, none⟩ = false := by
  simp [World.frozen?, h]

set_option maxHeartbeats 4000000 in
theorem obs1_does {w : World} {A B : List V} {xb xa vb va : Value} {base b3 b4 b8 b5 : Nat} {how : Int} (hA : A.length ≤ 10) (hB : B.length ≤ 10) (okA : ∀ x ∈ A, x.ok) (okB : ∀ x ∈ B, x.ok)
    (ho : w.ownsRow base 38 4 xb A.length (vals A)) (hxa : ReadV w xa B) (hvb : ReadV w vb A) (hva : ReadV w va B)
    (h3 : One w b3 vb 29) (h4 : One w b4 va 29) (h8 : One w b8 (.bool false) 4) (h5 : One w b5 (.int .i64 how) 3) (hb8 : b8 < base) (hb5 : b5 < base) (hn5 : b5 ≠ b8) :
    Calls Tryd.prog 18 #[.agg #[.string ⟨#[116]⟩, .int .i64 3, xb, xa], .pointer (some ⟨b3, 0, none⟩), .pointer (some ⟨b4, 0, none⟩), .pointer (some ⟨b8, 0, none⟩), .pointer (some ⟨b5, 0, none⟩)] w fun e w' =>
      ObsEnd how e ∧ One w' b8 (.bool true) 4 ∧ Same (fun k => k = b8 ∨ xb.ownBlock = some k) w w' := by
  have hal := (Same.refl (fun _ => False) w).alloc (changeObj xb xa)
  have hx0 : (w.alloc (changeObj xb xa)).heap[w.heap.size]? = some (changeObj xb xa) := heap_alloc_new _ _
  have ho1 := hal.row ho (fun _ _ => id)
  have hv1 := vals_self (ReadV.own ho1) (hvb.same hal) okA (by unfold maxLen; omega)
  have c3 := (hal.one h3 id).cell
  have c4 := (hal.one h4 id).cell
  have HV1 := Lib.hid hv1; have HO := Lib.hid ho; have HXA := Lib.hid (hxa.same hal); have HVA := Lib.hid (hva.same hal); have HAL := Lib.hid hal; have HX0 := Lib.hid hx0; have H4 := Lib.hid (hal.one h4 id); have H8 := Lib.hid (hal.one h8 id); have H5 := Lib.hid (hal.one h5 id)
  have HOKB := Lib.hid okB
  clear hal hx0 ho1 hv1 ho hxa hvb hva h3 h4 h8 h5 okA okB
  go_enter Tryd.func18, Tryd.ntmps18
  go_wp2_with fail
  refine HV1.out.mono ?_
  rintro e w2 ⟨rfl, hs2⟩
  have d4 := (hs2.one H4.out id).cell
  have x2 := hs2.obj HX0.out id
  have x2c : w2.cell? ⟨w.heap.size, 3, none⟩ = some xa := by simp [World.cell?, x2]
  have x1c : w2.cell? ⟨w.heap.size, 1, none⟩ = some (.int .i64 3) := by simp [World.cell?, x2]
  have x0c : w2.cell? ⟨w.heap.size, 0, none⟩ = some (.string ⟨#[116]⟩) := by simp [World.cell?, x2]
  have hv2 := vals_self (HXA.out.same hs2) (HVA.out.same hs2) HOKB.out (by unfold maxLen; omega)
  have HV2 := Lib.hid hv2; have HS2 := Lib.hid (HAL.out.trans hs2 (fun _ _ h => h)); have HX2 := Lib.hid x2; have HO2 := Lib.hid ((HAL.out.trans hs2 (fun _ _ h => h)).row HO.out (fun _ _ => id)); have H82 := Lib.hid (hs2.one H8.out id); have H52 := Lib.hid (hs2.one H5.out id)
  clear hs2 x2 hv2 HV1 HAL HX0 H4 H8 H5 HO
  go_wp2_with fail
  refine HV2.out.mono ?_
  rintro e w3 ⟨rfl, hs3⟩
  have x3 := hs3.obj HX2.out id
  have x3c : w3.cell? ⟨w.heap.size, 2, none⟩ = some xb := by simp [World.cell?, x3]
  have x1d : w3.cell? ⟨w.heap.size, 1, none⟩ = some (.int .i64 3) := by simp [World.cell?, x3]
  have x0d : w3.cell? ⟨w.heap.size, 0, none⟩ = some (.string ⟨#[116]⟩) := by simp [World.cell?, x3]
  have h83 := hs3.one H82.out id
  have c8 := h83.cell
  have f8 := h83.free
  have h53 := hs3.one H52.out id
  have HS3 := Lib.hid (HS2.out.trans hs3 (fun _ _ h => h)); have HO3 := Lib.hid (hs3.row HO2.out (fun _ _ => id)); have HX3 := Lib.hid x3; have H83 := Lib.hid h83; have H53 := Lib.hid h53
  have hxl := lt_of_block x3
  have h8l := h83.lt
  have h58 := (h53.other (a := ⟨b8, 0, none⟩) hn5 (.bool true))
  have H58 := Lib.hid h58; have H88 := Lib.hid (h83.setCell (.bool true))
  have hb8x : b8 ≠ w.heap.size := by
    intro e
    rw [e] at h83
    have := h83
    unfold One at this
    rw [x3] at this
    simp at this
  have x38 := (Below.heap_setCell w3 ⟨b8, 0, none⟩ (.bool true) _ (Ne.symm hb8x)).trans x3
  have HX38 := Lib.hid x38
  have x38c : (w3.setCell ⟨b8, 0, none⟩ (.bool true)).cell? ⟨w.heap.size, 2, none⟩ = some xb := by simp [World.cell?, x38]
  have hs8 : Same (fun k => k = b8 ∨ xb.ownBlock = some k) w (w3.setCell ⟨b8, 0, none⟩ (.bool true)) := (HS3.out.weaken (F' := fun k => k = b8 ∨ xb.ownBlock = some k) (fun _ _ h => h.elim)).setCell (p := ⟨b8, 0, none⟩) (fun _ => Or.inl rfl) _
  have HS8 := Lib.hid hs8
  have c5 := h58.cell
  have hm := i64_and1 how
  clear hs3 x3 h83 h53 h58 x38 hs8 HS2 HO2 HX2 H82 H52 HV2 HXA HVA HOKB d4 x2c x1c x0c c3 c4
  have hoo := HO3.out
  rcases hoo.2 with ⟨rfl, hA0⟩ | ⟨gx, cap, cur, rfl, hbg, hgx, hnc, hcm, hcs, htake⟩
  · have hA0' : A = [] := List.eq_nil_of_length_eq_zero hA0
    subst hA0'
    clear hoo HO3 hA0
    go_wp2_with fail
    refine wp_loop_rounds 1 ?_
    rw [rounds_succ]
    by_cases hp : how % 2 = 1
    · have hp2 : (how % 2 == 1) = true := by simp [hp]
      have HP := Lib.hid hp; clear hp
      go_wp2_with fail
      exact ⟨rfl, by unfold ObsEnd; rw [if_pos HP.out], H88.out, HS8.out⟩
    · have hp2 : (how % 2 == 1) = false := by simp [hp]
      have HP := Lib.hid hp; clear hp
      go_wp2_with fail
      go_ret
      exact ⟨by unfold ObsEnd; rw [if_neg HP.out]; rfl, H88.out, HS8.out⟩
  · have hgb8 : gx ≠ b8 := by omega
    have hgb5 : gx ≠ b5 := by omega
    have hgx' : gx ≠ w.heap.size := by
      intro e
      subst e
      have := HX3.out
      rw [hgx] at this
      simp at this
    have hg8 := (Below.heap_setCell w3 ⟨b8, 0, none⟩ (.bool true) _ (show gx ≠ b8 from hgb8)).trans hgx
    have HG8 := Lib.hid hg8
    unfold maxLen at hcm
    clear hoo HO3 hgx hg8 htake
    go_wp2_with fail
    go_loopg [7] A.length (fun r i wr => ∃ (j : Nat) (cs : Array Value), j + r = A.length ∧ i = .int .i64 (j : Int) ∧ wr.heap[gx]? = some (.cells cs 38 (0, 0)) ∧ cs.size = cap * 4 ∧ Same (fun k => k = b8 ∨ k = gx) w wr ∧ One wr b8 (.bool true) 4 ∧ One wr b5 (.int .i64 how) 3 ∧ wr.heap[w.heap.size]? = some (changeObj (.slice (some ⟨gx, 0, none⟩) A.length cap) xa))
    case atStart => exact ⟨0, cur, by omega, rfl, HG8.out, hcs, HS8.out.weaken (fun k _ h => h.imp_right fun h => by simpa [Value.ownBlock] using h.symm), H88.out, H58.out, HX38.out⟩
    case round =>
      obtain ⟨j, cs, hj, rfl, hg, hsz, hs, h8, h5, hx⟩ := hrel
      have y2 : wr.cell? ⟨w.heap.size, 2, none⟩ = some (.slice (some ⟨gx, 0, none⟩) A.length cap) := by simp [World.cell?, hx]
      have y5 := h5.cell
      have HS := Lib.hid hs; have H8 := Lib.hid h8; have H5 := Lib.hid h5; have HX := Lib.hid hx; have HG := Lib.hid hg; have HJ := Lib.hid hj
      clear hs h8 h5 hx c5 x38c HG8 H88 H58 HX38 HS8 H83 H53 c8 f8 x3c x1d x0d
      by_cases h0 : gk = 0
      · subst h0
        obtain rfl : j = A.length := by omega
        clear hj hg
        by_cases hp : how % 2 = 1
        · have hp2 : (how % 2 == 1) = true := by simp [hp]
          have HP := Lib.hid hp; clear hp
          go_wp2_with fail
          exact ⟨rfl, by unfold ObsEnd; rw [if_pos HP.out], H8.out, HS.out.weaken (fun k _ h => h.imp_right fun h => by rw [h]; rfl)⟩
        · have hp2 : (how % 2 == 1) = false := by simp [hp]
          have HP := Lib.hid hp; clear hp
          go_wp2_with fail
          go_ret
          exact ⟨by unfold ObsEnd; rw [if_neg HP.out]; rfl, H8.out, HS.out.weaken (fun k _ h => h.imp_right fun h => by rw [h]; rfl)⟩
      · obtain ⟨g, rfl⟩ : ∃ g, gk = g + 1 := ⟨gk - 1, by omega⟩
        have hjA : j < A.length := by omega
        obtain ⟨q0, k0⟩ := cell_in (o := j * 4) hg (by omega)
        obtain ⟨q1, k1⟩ := cell_in (o := j * 4 + 1) hg (by omega)
        obtain ⟨q2, k2⟩ := cell_in (o := j * 4 + 2) hg (by omega)
        obtain ⟨q3, k3⟩ := cell_in (o := j * 4 + 3) hg (by omega)
        have fr : ∀ o, wr.frozen? ⟨gx, o, none⟩ = false := fun o => free_in hg
        have hlt : (j : Int) < (A.length : Int) := by omega
        clear hj hg h0
        go_wp2_with fail
        go_roundg g
        case measure => omega
        case rel =>
          exact ⟨j + 1, _, by have := HJ.out; omega, by go_num, setCell_at (setCell_at (setCell_at (setCell_at HG.out))), by simp [hsz],
            (((HS.out.setCell (p := ⟨gx, j * 4, none⟩) (fun _ => Or.inr rfl) _).setCell (p := ⟨gx, j * 4 + 1, none⟩) (fun _ => Or.inr rfl) _).setCell (p := ⟨gx, j * 4 + 2, none⟩) (fun _ => Or.inr rfl) _).setCell (p := ⟨gx, j * 4 + 3, none⟩) (fun _ => Or.inr rfl) _,
            (((H8.out.other (a := ⟨gx, j * 4, none⟩) (Ne.symm hgb8) _).other (a := ⟨gx, j * 4 + 1, none⟩) (Ne.symm hgb8) _).other (a := ⟨gx, j * 4 + 2, none⟩) (Ne.symm hgb8) _).other (a := ⟨gx, j * 4 + 3, none⟩) (Ne.symm hgb8) _,
            (((H5.out.other (a := ⟨gx, j * 4, none⟩) (Ne.symm hgb5) _).other (a := ⟨gx, j * 4 + 1, none⟩) (Ne.symm hgb5) _).other (a := ⟨gx, j * 4 + 2, none⟩) (Ne.symm hgb5) _).other (a := ⟨gx, j * 4 + 3, none⟩) (Ne.symm hgb5) _,
            by rw [Below.heap_setCell _ _ _ _ (Ne.symm hgx'), Below.heap_setCell _ _ _ _ (Ne.symm hgx'), Below.heap_setCell _ _ _ _ (Ne.symm hgx'), Below.heap_setCell _ _ _ _ (Ne.symm hgx')]; exact HX.out⟩

theorem ocell {w w' : World} {a : Addr} {v : Value} (hs : Same (fun _ => False) w w') (h : w.cell? a = some v) : w'.cell? a = some v := by
  have hlt : a.block < w.heap.size := by
    rcases Nat.lt_or_ge a.block w.heap.size with h1 | h1
    · exact h1
    · simp [World.cell?, Array.getElem?_eq_none h1] at h
  exact (World.cell?_of_block (hs.block _ hlt id)).trans h

theorem ofrozen {w w' : World} {a : Addr} {v : Value} {b : Bool} (hs : Same (fun _ => False) w w') (h : w.cell? a = some v) (hf : w.frozen? a = b) : w'.frozen? a = b := by
  have hlt : a.block < w.heap.size := by
    rcases Nat.lt_or_ge a.block w.heap.size with h1 | h1
    · exact h1
    · simp [World.cell?, Array.getElem?_eq_none h1] at h
  rw [← hf]
  simp [World.frozen?, hs.block _ hlt id]

theorem ReadV.drew {w : World} {v : Value} {L : List V} (h : ReadV w v L) : ReadV w.drew v L := h.same (Same.refl _ w).drew

theorem change_cells {w : World} {p : Nat} {a b : Value} (h : w.heap[p]? = some (changeObj a b)) :
    w.cell? ⟨p, 0, none⟩ = some (.string ⟨#[116]⟩) ∧ w.cell? ⟨p, 1, none⟩ = some (.int .i64 3) ∧ w.cell? ⟨p, 2, none⟩ = some a ∧ w.cell? ⟨p, 3, none⟩ = some b ∧ ∀ o, w.frozen? ⟨p, o, none⟩ = false := by
  simp [World.cell?, World.frozen?, h]

theorem enter18 (args : Array Value) (w : World) : (callFunc 18 args).run Tryd.prog w = .ok (.enter 18 args) w := by kernel_rfl
theorem enter55 (args : Array Value) (w : World) : (callFunc 55 args).run Tryd.prog w = .ok (.enter 55 args) w := by kernel_rfl

set_option maxHeartbeats 4000000 in
/-- The closure that calls the observer. -/
theorem obsCall_does {w : World} {xb xa : Value} {bf bc : Nat} {caps : Array Value} {R : Ending → World → Prop}
    (hf : One w bf (.func (.func 18) #[] caps) 112) (hc : w.heap[bc]? = some (changeObj xb xa)) (hR : ∀ e w', R e w' → e = .returned .nilIface ∨ ∃ c, e = .panicked c)
    (h : Calls Tryd.prog 18 (#[.agg #[.string ⟨#[116]⟩, .int .i64 3, xb, xa]] ++ caps) w R) :
    Calls Tryd.prog 55 #[.pointer (some ⟨bf, 0, none⟩), .pointer (some ⟨bc, 0, none⟩)] w R := by
  have c0 := hf.cell
  have x0 : w.cell? ⟨bc, 0, none⟩ = some (.string ⟨#[116]⟩) := by simp [World.cell?, hc]
  have x1 : w.cell? ⟨bc, 1, none⟩ = some (.int .i64 3) := by simp [World.cell?, hc]
  have x2 : w.cell? ⟨bc, 2, none⟩ = some xb := by simp [World.cell?, hc]
  have x3 : w.cell? ⟨bc, 3, none⟩ = some xa := by simp [World.cell?, hc]
  have e18 := enter18
  have H := Lib.hid h; have HRR := Lib.hid hR
  clear h hf hc hR
  go_enter Tryd.func55, Tryd.ntmps55
  go_wp2_with fail
  refine H.out.mono ?_
  intro e w' hr
  have HQ := Lib.hid hr
  rcases HRR.out e w' hr with rfl | ⟨c, rfl⟩
  · clear hr
    go_wp2_with fail
    exact HQ.out
  · clear hr
    go_wp2_with fail
    exact ⟨rfl, HQ.out⟩

set_option maxHeartbeats 4000000 in
/-- The run of the observer. -/
theorem observe_run {w : World} {A B : List V} {xb xa vb va : Value} {base bf bc b3 b4 b8 b5 : Nat} {how : Int} (hA : A.length ≤ 10) (hB : B.length ≤ 10) (okA : ∀ x ∈ A, x.ok) (okB : ∀ x ∈ B, x.ok)
    (ho : w.ownsRow base 38 4 xb A.length (vals A)) (hxa : ReadV w xa B) (hvb : ReadV w vb A) (hva : ReadV w va B)
    (hf : One w bf (.func (.func 18) #[] #[.pointer (some ⟨b3, 0, none⟩), .pointer (some ⟨b4, 0, none⟩), .pointer (some ⟨b8, 0, none⟩), .pointer (some ⟨b5, 0, none⟩)]) 112) (hc : w.heap[bc]? = some (changeObj xb xa))
    (h3 : One w b3 vb 29) (h4 : One w b4 va 29) (h8 : One w b8 (.bool false) 4) (h5 : One w b5 (.int .i64 how) 3) (hb8 : b8 < base) (hb5 : b5 < base) (hn5 : b5 ≠ b8) :
    Calls Tryd.prog 20 #[.string ⟨#[]⟩, .func (.func 55) #[] #[.pointer (some ⟨bf, 0, none⟩), .pointer (some ⟨bc, 0, none⟩)]] w fun e w' =>
      (if how % 2 = 1 then ∃ p, e = .returned (faultV p) ∧ w'.heap[p]? = some (faultObj ⟨#[]⟩ .nilIface (.iface 3 (.int .i64 how))) else e = .returned .nilIface) ∧ One w' b8 (.bool true) 4 ∧ Same (fun k => k = b8 ∨ xb.ownBlock = some k) w w' := by
  have hr := run3_same w ⟨#[]⟩
  have h1 := obs1_does hA hB okA okB (hr.row ho (fun _ _ => id)) (hxa.same hr) (hvb.same hr) (hva.same hr) (hr.one h3 id) (hr.one h4 id) (hr.one h8 id) (hr.one h5 id) hb8 hb5 hn5
  have h2 := obsCall_does (R := fun e w2 => ObsEnd how e ∧ One w2 b8 (.bool true) 4 ∧ Same (fun k => k = b8 ∨ xb.ownBlock = some k) (run3 w ⟨#[]⟩) w2) (hr.one hf id) (hr.obj hc id) (fun e w' h => by
    have := h.1
    unfold ObsEnd at this
    split at this
    · exact Or.inr ⟨_, this⟩
    · exact Or.inl this) h1
  refine (run_any (wh := ⟨#[]⟩) (w := w) (R := fun e w2 => ObsEnd how e ∧ One w2 b8 (.bool true) 4) (F := fun k => k = b8 ∨ xb.ownBlock = some k) (fun k hk => ?_) enter55 (h2.mono fun e w2 ⟨q1, q2, q3⟩ => ⟨q3, ⟨q1, q2⟩, ?_⟩)).mono ?_
  · rcases hk with rfl | hk
    · exact h8.lt
    · exact (ho.lt k hk).2
  · unfold ObsEnd at q1
    split at q1
    · exact Or.inr (Or.inr ⟨_, _, by decide, q1⟩)
    · exact Or.inl q1
  · rintro e w' ⟨e0, w0, ⟨q1, q2⟩, hs0, hs1, ht⟩
    have hl8 := h8.lt
    refine ⟨?_, hs1.one q2 (fun h => by omega), hs0.trans hs1 (fun k hk h => by omega)⟩
    unfold ObsEnd at q1
    by_cases hp : how % 2 = 1
    · rw [if_pos hp] at q1 ⊢
      subst q1
      rcases ht with ⟨h, _⟩ | ⟨D, x, p, h, _⟩ | ⟨T, x, p, h, rfl, ho⟩
      · cases h
      · cases h
      · simp only [Ending.panicked.injEq, List.cons.injEq, PanicEntry.mk.injEq, Value.iface.injEq, and_true] at h
        obtain ⟨rfl, rfl⟩ := h
        exact ⟨p, rfl, ho⟩
    · rw [if_neg hp] at q1 ⊢
      subst q1
      rcases ht with ⟨_, rfl⟩ | ⟨D, x, p, h, _⟩ | ⟨T, x, p, h, _⟩
      · rfl
      · cases h
      · cases h

set_option maxHeartbeats 8000000 in
/-- hook.Observe with the statement's observer. -/
theorem observe_any {w : World} {A B : List V} {yb ya vb va : Value} {b3 b4 b8 b5 : Nat} {how : Int} (hA : A.length ≤ 10) (hB : B.length ≤ 10) (okA : ∀ x ∈ A, x.ok) (okB : ∀ x ∈ B, x.ok)
    (hyb : ReadV w yb A) (hya : ReadV w ya B) (hvb : ReadV w vb A) (hva : ReadV w va B)
    (h3 : One w b3 vb 29) (h4 : One w b4 va 29) (h8 : One w b8 (.bool false) 4) (h5 : One w b5 (.int .i64 how) 3) (hn5 : b5 ≠ b8) :
    Calls Tryd.prog 17 #[.func (.func 18) #[] #[.pointer (some ⟨b3, 0, none⟩), .pointer (some ⟨b4, 0, none⟩), .pointer (some ⟨b8, 0, none⟩), .pointer (some ⟨b5, 0, none⟩)], .agg #[.string ⟨#[116]⟩, .int .i64 3, yb, ya]] w fun e w' =>
      (if how % 2 = 1 then ∃ p, e = .returned (faultV p) ∧ w'.heap[p]? = some (faultObj ⟨#[]⟩ .nilIface (.iface 3 (.int .i64 how))) else e = .returned .nilIface) ∧ One w' b8 (.bool true) 4 ∧ Same (fun k => k = b8) w w' := by
  have hnil : ∀ (caps : Array Value) (w : World), (binOp BinOp.eql 112 (.func (.func 18) #[] caps) .nilFunc).run Tryd.prog w = .ok (.bool false) w := fun _ _ => by kernel_rfl
  have hcl := fun (w' : World) (h : ReadV w' yb A) => clone_any h (by omega)
  have hcm := fun (w' : World) (h : ReadV w' ya B) => clone_any h (by omega)
  have HCL := Lib.hid hcl; have HCM := Lib.hid hcm
  have hb := ((Same.refl (fun _ => False) w).alloc (.cells #[.func (.func 18) #[] #[.pointer (some ⟨b3, 0, none⟩), .pointer (some ⟨b4, 0, none⟩), .pointer (some ⟨b8, 0, none⟩), .pointer (some ⟨b5, 0, none⟩)]] 112)).alloc (changeObj yb ya)
  have hx := heap_alloc_new (w.alloc (.cells #[.func (.func 18) #[] #[.pointer (some ⟨b3, 0, none⟩), .pointer (some ⟨b4, 0, none⟩), .pointer (some ⟨b8, 0, none⟩), .pointer (some ⟨b5, 0, none⟩)]] 112)) (changeObj yb ya)
  rw [alloc_size] at hx
  have hf := (One.new w (.func (.func 18) #[] #[.pointer (some ⟨b3, 0, none⟩), .pointer (some ⟨b4, 0, none⟩), .pointer (some ⟨b8, 0, none⟩), .pointer (some ⟨b5, 0, none⟩)]) 112).alloc (changeObj yb ya)
  have HB := Lib.hid hb; have HX := Lib.hid hx; have HF := Lib.hid hf
  have HYB := Lib.hid (hyb.same hb); have HYA := Lib.hid (hya.same hb); have HVB := Lib.hid hvb; have HVA := Lib.hid hva; have H3 := Lib.hid h3; have H4 := Lib.hid h4; have H8 := Lib.hid h8; have H5 := Lib.hid h5; have HOKA := Lib.hid okA; have HOKB := Lib.hid okB
  clear hcl hcm hb hx hf hyb hya hvb hva h3 h4 h8 h5 okA okB
  go_enter Tryd.func17, Tryd.ntmps17
  go_wp2_with fail
  obtain ⟨W, hW⟩ : ∃ W, W = (w.alloc (.cells #[.func (.func 18) #[] #[.pointer (some ⟨b3, 0, none⟩), .pointer (some ⟨b4, 0, none⟩), .pointer (some ⟨b8, 0, none⟩), .pointer (some ⟨b5, 0, none⟩)]] 112)).alloc (changeObj yb ya) := ⟨_, rfl⟩
  rw [← hW] at HB HX HF HYB HYA
  simp only [changeObj] at hW
  rw [← hW]
  clear hW
  obtain ⟨z0, z1, z2, z3, zf⟩ := change_cells HX.out
  have hxl := lt_of_block HX.out
  go_region_law (first
    | (go_simp; refine (HCL.out _ HYB.out.drew).mono ?_; rintro e wB ⟨xb, rfl, hob, hsb⟩; obtain ⟨ab, cb, rfl⟩ := readV_len (ReadV.own hob); have hB := ((Same.refl (fun _ => False) W).drew).trans hsb (fun _ _ h => h); have HXB := Lib.hid (hB.obj HX.out id); obtain ⟨y0, y1, y2, y3, yf⟩ := change_cells HXB.out)
    | (go_simp; refine (HCM.out _ (HYA.out.same hB)).mono ?_; rintro e wA ⟨xa, rfl, hoa, hsa⟩; obtain ⟨aa, ca, rfl⟩ := readV_len (ReadV.own hoa); have hA2 := hB.trans hsa (fun _ _ h => h); have HXA := Lib.hid (hA2.obj HX.out id); obtain ⟨x0, x1, x2, x3, xf⟩ := change_cells HXA.out))
  all_goals
    have hset := (Same.refl (fun k => k = w.heap.size + 1) wA).setCell (p := ⟨w.heap.size + 1, 2, none⟩) (fun _ => rfl) (.slice ab A.length cb)
    have hset2 := hset.setCell (p := ⟨w.heap.size + 1, 3, none⟩) (fun _ => rfl) (.slice aa B.length ca)
    have hxf : ((wA.setCell ⟨w.heap.size + 1, 2, none⟩ (.slice ab A.length cb)).setCell ⟨w.heap.size + 1, 3, none⟩ (.slice aa B.length ca)).heap[w.heap.size + 1]? = some (changeObj (.slice ab A.length cb) (.slice aa B.length ca)) := setCell_at (setCell_at HXA.out)
    have hWd : W.drew.heap.size = W.heap.size := rfl
    have hsb2 := hB.size
    have l8 := H8.out.lt
    have hob2 := hset2.row (hsa.row hob (fun _ _ => id)) (fun k hk e => by
      have := (hob.lt k hk).1
      omega)
    have hoa2 := hset2.row hoa (fun k hk e => by
      have := (hoa.lt k hk).1
      omega)
    have hWf : Same (fun k => k = w.heap.size + 1) W ((wA.setCell ⟨w.heap.size + 1, 2, none⟩ (.slice ab A.length cb)).setCell ⟨w.heap.size + 1, 3, none⟩ (.slice aa B.length ca)) := (hA2.weaken (F' := fun k => k = w.heap.size + 1) (fun _ _ h => h.elim)).trans hset2 (fun _ _ h => h)
    have HXF := Lib.hid hxf; have HOB := Lib.hid hob2; have HOA := Lib.hid hoa2; have HWF := Lib.hid hWf
    clear hset hset2 hxf hob2 hoa2 hWf hob hoa hsa hsb hB hA2 x0 x1 x2 x3 xf y0 y1 y2 y3 yf z0 z1 z2 z3 zf
    have hsz := HB.out.size
    have hsWf := HB.out.trans HWF.out (fun k hk h => by omega)
    have l5 := H5.out.lt
    have hrun := observe_run hA hB HOKA.out HOKB.out HOB.out (ReadV.own HOA.out) (HVB.out.same hsWf) (HVA.out.same hsWf) (HWF.out.one HF.out (by omega)) HXF.out (hsWf.one H3.out id) (hsWf.one H4.out id) (hsWf.one H8.out id) (hsWf.one H5.out id) (by omega) (by omega) hn5
    have hown : ∀ k, (Value.slice ab A.length cb).ownBlock = some k → w.heap.size ≤ k := fun k hk => by
      have := (HOB.out.lt k hk).1
      omega
    have HRUN := Lib.hid hrun; have HSW := Lib.hid hsWf; have HOWN := Lib.hid hown
    clear hrun hsWf hown HXF HOB HOA HWF HXA HXB HX HF HYB HYA HVB HVA H3 H4 H5 HOKA HOKB HB hsb2
    go_wp2_with fail
    refine HRUN.out.mono ?_
    rintro e w9 ⟨q1, q2, q3⟩
    have q4 : Same (fun k => k = b8) w w9 := (HSW.out.weaken (F' := fun k => k = b8) (fun _ _ h => h.elim)).trans q3 (fun k hk h => h.elim id (fun h => by have := HOWN.out k h; omega))
    have Q2 := Lib.hid q2; have Q4 := Lib.hid q4
    clear q2 q3 q4 HRUN
    by_cases hp : how % 2 = 1
    · rw [if_pos hp] at q1
      obtain ⟨p, rfl, ho⟩ := q1
      have HO := Lib.hid ho; have HP := Lib.hid hp
      clear ho hp
      go_wp2_with fail
      go_ret
      all_goals first | exact ⟨⟨p, rfl, HO.out⟩, Q2.out, Q4.out⟩ | (exfalso; have := HP.out; omega)
    · rw [if_neg hp] at q1
      subst q1
      have HP := Lib.hid hp
      clear hp
      go_wp2_with fail
      go_ret
      all_goals first | exact ⟨rfl, Q2.out, Q4.out⟩ | (exfalso; have := HP.out; omega)

end Go.Proofs.YtcbapmkipcffgaaDoor
