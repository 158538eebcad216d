/-
  seqidx: what Splice asks of its rows. Conditions: the rows are there.
-/
import Derived.Test.YtelgbigpfiohfaaSeqP
import Derived.Shelf.Abstract
namespace Go.Proofs.Ytelgbigpfiohfaa
open Go.RowKit Go.Extern.Stop Go.Stop Go.Extern Go.Lib Go.Maps
set_option maxRecDepth 1000000

theorem splice1_any {w : World} {P : Nat → Prop} {x bx k : Nat} {L : List Int} {y : Int} (h : IxP 67 w P x L k) (hb : w.cell? ⟨bx, 0, none⟩ = some (.pointer (some ⟨x, 0, none⟩))) (_ : bx < w.heap.size) (hy : y ∈ L) :
    Calls Try.prog 49 #[.int .i64 y, .pointer (some ⟨bx, 0, none⟩)] w fun e w' => e = .returned (.bool false) ∧ Same (fun _ => False) w w' := by
  have h64 := h.ok.2 y hy
  obtain ⟨c, N, hx, _⟩ := h
  have HH := Lib.hid (seq_has (q := true) hx h64 (by simp [hy]))
  clear hx hy h64
  go_enter Try.func49, Try.ntmps49
  go_wp2_with fail
  refine HH.out.mono ?_
  rintro e w1 ⟨rfl, hs⟩
  have HS := Lib.hid hs
  clear hs
  go_wp2_with fail
  go_ret
  exact ⟨rfl, HS.out⟩

/-- The function that Splice hands over. -/
abbrev askV (bx : Nat) : Value := .func (.func 49) #[] #[.pointer (some ⟨bx, 0, none⟩)]

set_option maxHeartbeats 4000000 in
theorem indexf_any {w : World} {P : Nat → Prop} {x bx k : Nat} {L ids : List Int} {v : Value} (h : IxP 67 w P x L k) (hb : w.cell? ⟨bx, 0, none⟩ = some (.pointer (some ⟨x, 0, none⟩))) (hbl : bx < w.heap.size) (hv : ReadC w 2 v (intsV ids)) (hl : ids.length ≤ 1000) (hm : ∀ y ∈ ids, y ∈ L) :
    Calls Try.prog 57 #[v, askV bx] w fun e w' => e = .returned (.int .i64 (-1)) ∧ Same (fun _ => False) w w' := by
  have eg : ∀ args w, (callFunc 49 args).run Try.prog w = .ok (.enter 49 args) w := Go.Proofs.enters_of Try.func49 (by kernel_rfl) rfl
  have hcap : ∃ ao cap, v = .slice ao ids.length cap := by
    obtain ⟨ao, cap, rfl, _⟩ := hv
    exact ⟨ao, cap, by simp⟩
  obtain ⟨ao, cap, rfl⟩ := hcap
  have HV := Lib.hid hv; have HX := Lib.hid h; have HB := Lib.hid hb; have HM := Lib.hid hm; have HBL := Lib.hid hbl
  clear hv h hb hm hbl
  go_enter Try.func57, Try.ntmps57
  go_wp2_with fail
  go_loopg [5, 8] ids.length (fun rr _ vi wr => ∃ (j : Nat), j + rr = ids.length ∧ vi = .int .i64 j ∧ Same (fun _ => False) w wr)
  case atStart => exact ⟨0, by omega, rfl, Same.refl _ _⟩
  case round =>
    obtain ⟨j, hj, rfl, hs⟩ := hrel
    by_cases hlast : j < ids.length
    · have hl' : (j : Int) < (ids.length : Int) := by omega
      have hjb : (j : Int) < 1001 := by omega
      have ra := HV.out.kept hs (fun _ _ => id)
      obtain ⟨ab, ao2, ac2, acs, afr, ea, hab, _⟩ := ra.where (by simpa using (by omega : 0 < ids.length))
      simp only [Value.slice.injEq] at ea
      obtain ⟨rfl, -, -⟩ := ea
      have hx := ra.cell (j := j) (x := .int .i64 ids[j]) (by simp [hlast])
      have hla := lt_of_block hab
      have HC := Lib.hid (splice1_any (HX.out.keep hs) ((World.cell?_of_block (a := ⟨bx, 0, none⟩) (hs.block bx HBL.out id)).trans HB.out) (Nat.lt_of_lt_of_le HBL.out hs.size) (HM.out ids[j] (List.getElem_mem _)))
      have HS := Lib.hid hs
      generalize ids[j] = y at *
      clear ra hab hs
      go_wp2_with fail
      refine HC.out.mono ?_
      rintro e w1 ⟨rfl, hs1⟩
      have HS1 := Lib.hid (HS.out.trans hs1 (fun _ _ h => h))
      clear hs1
      go_wp2_with fail
      go_roundg (gk - 1)
      case measure => omega
      case rel => exact ⟨j + 1, by omega, by go_num, HS1.out⟩
    · have hl' : ¬ (j : Int) < (ids.length : Int) := by omega
      have HS := Lib.hid hs
      clear hs
      go_wp2_with fail
      go_ret
      exact ⟨rfl, HS.out⟩

theorem containsf_any {w : World} {P : Nat → Prop} {x bx k : Nat} {L ids : List Int} {v : Value} (h : IxP 67 w P x L k) (hb : w.cell? ⟨bx, 0, none⟩ = some (.pointer (some ⟨x, 0, none⟩))) (hbl : bx < w.heap.size) (hv : ReadC w 2 v (intsV ids)) (hl : ids.length ≤ 1000) (hm : ∀ y ∈ ids, y ∈ L) :
    Calls Try.prog 48 #[v, askV bx] w fun e w' => e = .returned (.bool false) ∧ Same (fun _ => False) w w' := by
  have HI := Lib.hid (indexf_any h hb hbl hv hl hm)
  have hcap : ∃ ao cap, v = .slice ao ids.length cap := by
    obtain ⟨ao, cap, rfl, _⟩ := hv
    exact ⟨ao, cap, by simp⟩
  obtain ⟨ao, cap, rfl⟩ := hcap
  clear h hb hbl hv hm
  go_enter Try.func48, Try.ntmps48
  go_wp2_with fail
  refine HI.out.mono ?_
  rintro e w1 ⟨rfl, hs⟩
  have HS := Lib.hid hs
  clear hs
  go_wp2_with fail
  go_ret
  exact ⟨rfl, HS.out⟩

end Go.Proofs.Ytelgbigpfiohfaa
