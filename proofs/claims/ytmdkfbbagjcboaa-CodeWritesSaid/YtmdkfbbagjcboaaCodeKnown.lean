/-
  Package code, told of memory: Whole; and what every law asks first. Conditions: none on inputs but a bound of the length.
-/
import Derived.Test.YtmdkfbbagjcboaaCodeGet
namespace Go.Proofs.Ytmdkfbbagjcboaa
open Go.RowKit

/-- Bytes that a slice holds. -/
def RD (w : World) (v : Value) (l : List UInt8) : Prop :=
  (∃ cap, v = .slice none 0 cap ∧ l = []) ∨ ∃ b0 off cap, v = .slice (some ⟨b0, off, none⟩) l.length cap ∧ RB w b0 off cap l ∧ b0 < w.heap.size

theorem RD.same {w w' : World} {v : Value} {l : List UInt8} (h : RD w v l) (hs : Same (fun _ => False) w w') : RD w' v l := by
  rcases h with h | ⟨b0, off, cap, h1, h2, h3⟩
  · exact Or.inl h
  · exact Or.inr ⟨b0, off, cap, h1, h2.same hs h3 id, Nat.lt_of_lt_of_le h3 hs.size⟩

theorem RD.own {w : World} {B : Nat} {v : Value} {l : List UInt8} (h : w.ownsRow B 5 1 v l.length (bytesV l)) : RD w v l := by
  rcases h.2 with ⟨rfl, h0⟩ | ⟨g, cap, cur, rfl, hbg, hg, hnc, hcm, hcs, htake⟩
  · exact Or.inl ⟨0, rfl, List.eq_nil_of_length_eq_zero h0⟩
  · refine Or.inr ⟨g, 0, cap, rfl, ⟨hnc, hcm, fun j x hj => ?_⟩, lt_of_block hg⟩
    have := h.cells (g := g) rfl j (.int .u8 (x.toNat : Int)) (by simp [bytesV, hj])
    rwa [Addr.add_lit] at this

theorem get_reads {w : World} {v : Value} {l : List UInt8} (h : RD w v l) (hl : l.length ≤ 1000000) : Calls Try.prog 12 #[v] w fun e w' => GetSays w l e w' := by
  rcases h with ⟨cap, rfl, rfl⟩ | ⟨b0, off, cap, rfl, h2, h3⟩
  · exact get_nil w cap
  · exact get_any h2 h3 hl

theorem whole_reads {w : World} {v : Value} {l : List UInt8} (h : RD w v l) (hl : l.length ≤ 1000000) :
    Calls Try.prog 15 #[v] w fun e w' => e = .returned (.bool (rows l).isSome) ∧ Same (fun _ => False) w w' := by
  have H := Lib.hid h; clear h
  go_enter Try.func15, Try.ntmps15
  go_wp2_with fail
  refine (get_reads H.out hl).mono ?_
  rintro e w1 ⟨hs, hsay⟩
  have HS := Lib.hid hs; clear hs
  cases hr : rows l with
  | none =>
    rw [hr] at hsay
    subst hsay
    have HR := Lib.hid hr; clear hr
    go_wp2_with fail
    go_ret
    exact ⟨by rw [HR.out]; rfl, HS.out⟩
  | some L =>
    rw [hr] at hsay
    obtain ⟨v', rfl, _⟩ := hsay
    have HR := Lib.hid hr; clear hr
    go_wp2_with fail
    go_ret
    exact ⟨by rw [HR.out]; rfl, HS.out⟩

theorem Same.of_below {w w' : World} (h : Below w.heap.size w w') : Same (fun _ => False) w w' := ⟨h.os, h.tape, h.output, h.size, fun k hk _ => h.block k hk⟩

theorem put_yes {w : World} {v : Value} {L : List V} (h : ReadV w v L) (hok : ∀ x ∈ L, x.ok) (hn : L.length ≤ 1000) (hv : L.all isV = true) :
    Calls Try.prog 10 #[v] w fun e w' => ∃ v', e = .returned (.tuple #[v', .int .i64 0]) ∧ w'.ownsRow w.heap.size 5 1 v' (encL L).length (bytesV (encL L)) ∧ Same (fun _ => False) w w' :=
  (put_any h hok hn).mono fun e w' ⟨h1, _, h3⟩ => by
    obtain ⟨v', e1, e2⟩ := h1 hv
    exact ⟨v', e1, e2, Same.of_below h3⟩

theorem put_no {w : World} {v : Value} {L : List V} (h : ReadV w v L) (hok : ∀ x ∈ L, x.ok) (hn : L.length ≤ 1000) (hv : L.all isV = false) :
    Calls Try.prog 10 #[v] w fun e w' => e = .returned (.tuple #[.slice none 0 0, .int .i64 20]) ∧ Same (fun _ => False) w w' :=
  (put_any h hok hn).mono fun _ _ ⟨_, h2, h3⟩ => ⟨h2 hv, Same.of_below h3⟩

theorem readV_one (w : World) (x : V) : ReadV (w.alloc x.obj) (.slice (some ⟨w.heap.size, 0, none⟩) 1 1) [x] := by
  refine ⟨some ⟨w.heap.size, 0, none⟩, 1, rfl, fun j y hj => ?_⟩
  have hb : (w.alloc x.obj).heap[w.heap.size]? = some x.obj := heap_alloc_new _ _
  obtain ⟨e0, e1, e2, e3⟩ := obj_cells hb
  match j with
  | 0 =>
    simp at hj
    subst hj
    exact ⟨w.heap.size, 0, rfl, lt_of_block hb, e0, e1, e2, e3⟩
  | j + 1 => simp at hj

theorem rd_new (w : World) (l : List UInt8) (hl : l.length ≤ maxLen) : RD (w.alloc (.cells (bytesV l).toArray 5)) (.slice (some ⟨w.heap.size, 0, none⟩) l.length l.length) l := by
  have hb : (w.alloc (.cells (bytesV l).toArray 5)).heap[w.heap.size]? = some (.cells (bytesV l).toArray 5) := heap_alloc_new _ _
  refine Or.inr ⟨_, _, _, rfl, ⟨Nat.le_refl _, hl, fun j x hj => ?_⟩, lt_of_block hb⟩
  simp only [World.cell?, hb]
  simp [bytesV, hj]

set_option maxRecDepth 1000000 in
theorem known_any (w : World) : Calls Try.prog 8 #[] w fun e w' => e = .returned (.bool true) ∧ Same (fun _ => False) w w' := by
  have hok : ∀ x ∈ [(⟨3, 0, ⟨#[97]⟩, 0⟩ : V)], x.ok := by
    intro x hx
    simp at hx
    subst hx
    exact ⟨by decide, by decide, by decide, by decide, by decide, by decide⟩
  have hall : [(⟨3, 0, ⟨#[97]⟩, 0⟩ : V)].all isV = true := by
    simp [isV, ByteArray.size]
  have henc : encL [(⟨3, 0, ⟨#[97]⟩, 0⟩ : V)] = [3, 97, 0, 1] := by decide
  have hr1 : rows [3, 97] = none := by decide
  have hr2 : (rows [3, 97, 0, 1]).isSome = true := by decide
  have hs1 : Same (fun _ => False) w (w.alloc (⟨3, 0, ⟨#[97]⟩, 0⟩ : V).obj) := (Same.refl _ w).alloc _
  go_enter Try.func8, Try.ntmps8
  go_wp2_with fail
  refine (put_yes (readV_one w ⟨3, 0, ⟨#[97]⟩, 0⟩) hok (by simp) hall).mono ?_
  rintro e w2 ⟨v', rfl, hown, hs2⟩
  rw [henc] at hown
  have hs12 := hs1.trans hs2 (fun _ _ h => h)
  have HO := Lib.hid hown; have HS := Lib.hid hs12; have HR1 := Lib.hid hr1; have HR2 := Lib.hid hr2
  clear hok hall henc hs1 hs2 hown hs12 hr1 hr2
  go_wp2_with fail
  have hnew := rd_new w2 [3, 97] (by decide)
  refine (get_reads hnew (by decide)).mono ?_
  rintro e w3 ⟨hs3, hsay⟩
  rw [HR1.out] at hsay
  simp only at hsay
  subst hsay
  have hs23 := ((Same.refl (fun _ => False) w2).alloc (.cells (bytesV [3, 97]).toArray 5)).trans hs3 (fun _ _ h => h)
  have hown3 := hs23.row HO.out (fun _ _ => id)
  have hcv := own_string (l := [3, 97, 0, 1]) hown3
  have hs4 := HS.out.trans hs23 (fun _ _ h => h)
  have HO3 := Lib.hid hown3; have HS4 := Lib.hid hs4
  clear hs3 hs23 hown3 hs4 hnew HO HS
  go_wp2_with fail
  refine (whole_reads (RD.own HO3.out) (by decide)).mono ?_
  rintro e w4 ⟨rfl, hs5⟩
  rw [HR2.out]
  have HS5 := Lib.hid (HS4.out.trans hs5 (fun _ _ h => h)); clear hs5
  go_wp2_with fail
  go_ret
  exact ⟨rfl, HS5.out⟩

end Go.Proofs.Ytmdkfbbagjcboaa
