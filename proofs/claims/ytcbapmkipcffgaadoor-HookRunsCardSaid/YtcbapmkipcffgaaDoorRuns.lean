/-
  HookRuns: the user's code of the statement. Conditions: none.
-/
import Derived.Test.YtcbapmkipcffgaaDoorRunsTell
import Derived.Test.YtcbapmkipcffgaaDoorHookKnown
import Derived.Laws.Panics
namespace Go.Proofs.YtcbapmkipcffgaaDoor
open Go.RowKit Go.Extern.Stop Go.Stop Go.Extern Go.Lib
set_option maxRecDepth 1000000

theorem i64_and7 (n : Int) : bits .and .i64 n 7 = n % 8 := by
  have h7 : (BitVec.ofInt 64 7).toNat = 2 ^ 3 - 1 := by decide
  have key : (BitVec.ofInt 64 n &&& BitVec.ofInt 64 7).toNat = (n % ((2 ^ 64 : Nat) : Int)).toNat % 2 ^ 3 := by
    rw [BitVec.toNat_and, BitVec.toNat_ofInt, h7, Nat.and_two_pow_sub_one_eq_mod]
  show IntKind.i64.wrap ((BitVec.ofInt 64 n &&& BitVec.ofInt 64 7).toNat : Nat) = n % 8
  rw [key, IntKind.wrap_i64]
  omega

theorem l2_panics (w : World) : ∃ v, (Instr.indexAt 23 (.slice none 0 0) (.int .i64 0)).run Tryd.prog w = .halt (.panic (.iface 8 v)) w.drew := by
  have e : (Instr.indexAt 23 (.slice none 0 0) (.int .i64 0)).run Tryd.prog w = (boundsPanic .i64 0 0 .index : Sem Value).run Tryd.prog w := by
    simp [Instr.indexAt, run_underlying Tryd.underlying23, asIntOf]
  rw [e]
  unfold boundsPanic
  simp [runtimePanic, goPanic, go_sem]

theorem runs_drew {F : Nat → Prop} {w w1 : World} (h : Same F w w1) : Same F w w1.drew := ⟨h.os, h.tape, h.output, h.size, h.block⟩

theorem l2_nil (w : World) : Calls Tryd.prog 22 #[.slice none 0 0] w fun e w' => (∃ v, e = .panicked [{ v := .iface 8 v, recovered := false }]) ∧ Same (fun _ => False) w w' := by
  obtain ⟨v, hv⟩ := l2_panics w
  go_enter Tryd.func22, Tryd.ntmps22
  go_wp2_with fail
  exact ⟨rfl, ⟨v, rfl⟩, runs_drew (Same.refl _ w)⟩

/-- What the statement's code does. -/
def RunsEnd (how n : Int) (pe : Nat) (e : Ending) : Prop :=
  if how % 8 = 1 then e = .returned (markV pe)
  else if how % 8 = 2 then e = .panicked [{ v := markV pe, recovered := false }]
  else if how % 8 = 3 then e = .panicked [{ v := .iface 3 (.int .i64 n), recovered := false }]
  else if how % 8 = 4 then ∃ v, e = .panicked [{ v := .iface 8 v, recovered := false }]
  else if how % 8 = 5 then e = .returned (errNo 70)
  else if how % 8 = 6 then e = .panicked [{ v := .iface 9 (.string ⟨#[116, 101, 120, 116]⟩), recovered := false }]
  else e = .returned .nilIface

set_option maxHeartbeats 2000000 in
theorem runs1_does {w : World} {bc bh bm bn pe : Nat} {how n : Int} (hc : One w bc (.int .i64 0) 3) (hh : One w bh (.int .i64 how) 3) (hm : One w bm (.pointer (some ⟨pe, 0, none⟩)) 41) (hn : One w bn (.int .i64 n) 3)
    (h1 : bh ≠ bc) (h2 : bm ≠ bc) (h3 : bn ≠ bc) :
    Calls Tryd.prog 21 #[.pointer (some ⟨bc, 0, none⟩), .pointer (some ⟨bh, 0, none⟩), .pointer (some ⟨bm, 0, none⟩), .pointer (some ⟨bn, 0, none⟩)] w fun e w' =>
      RunsEnd how n pe e ∧ One w' bc (.int .i64 1) 3 ∧ Same (fun k => k = bc) w w' := by
  have c0 := hc.cell
  have f0 := hc.free
  have ch := (hh.other (a := ⟨bc, 0, none⟩) h1 (.int .i64 1)).cell
  have cm := (hm.other (a := ⟨bc, 0, none⟩) h2 (.int .i64 1)).cell
  have cn := (hn.other (a := ⟨bc, 0, none⟩) h3 (.int .i64 1)).cell
  have hs : Same (fun k => k = bc) w (w.setCell ⟨bc, 0, none⟩ (.int .i64 1)) := (Same.refl (fun k => k = bc) w).setCell (p := ⟨bc, 0, none⟩) (fun _ => rfl) _
  have HS := Lib.hid hs; have HC := Lib.hid (hc.setCell (.int .i64 1))
  have hq := i64_and7 how
  obtain ⟨q, hq2⟩ : ∃ q, q = how % 8 := ⟨_, rfl⟩
  have hr : q = 0 ∨ q = 1 ∨ q = 2 ∨ q = 3 ∨ q = 4 ∨ q = 5 ∨ q = 6 ∨ q = 7 := by omega
  rw [← hq2] at hq
  have HQ := Lib.hid hq2
  clear hs hc hh hm hn hq2
  go_enter Tryd.func21, Tryd.ntmps21
  rcases hr with rfl | rfl | rfl | rfl | rfl | rfl | rfl | rfl
  · go_wp2_with fail
    go_ret
    exact ⟨by unfold RunsEnd; rw [← HQ.out]; simp, HC.out, HS.out⟩
  · go_wp2_with fail
    go_ret
    exact ⟨by unfold RunsEnd; rw [← HQ.out]; simp, HC.out, HS.out⟩
  · go_wp2_with fail
    exact ⟨rfl, by unfold RunsEnd; rw [← HQ.out]; simp, HC.out, HS.out⟩
  · go_wp2_with fail
    exact ⟨rfl, by unfold RunsEnd; rw [← HQ.out]; simp, HC.out, HS.out⟩
  · go_wp2_with fail
    refine (l2_nil _).mono ?_
    rintro e w' ⟨⟨v, rfl⟩, hs'⟩
    have HC2 := Lib.hid (hs'.one HC.out id); have HS2 := Lib.hid (HS.out.trans hs' (fun _ _ h => h.elim)); clear hs'
    go_wp2_with fail
    exact ⟨rfl, by unfold RunsEnd; rw [← HQ.out]; simp, HC2.out, HS2.out⟩
  · go_wp2_with fail
    go_ret
    exact ⟨by unfold RunsEnd; rw [← HQ.out]; simp, HC.out, HS.out⟩
  · go_wp2_with fail
    exact ⟨rfl, by unfold RunsEnd; rw [← HQ.out]; simp, HC.out, HS.out⟩
  · go_wp2_with fail
    go_ret
    exact ⟨by unfold RunsEnd; rw [← HQ.out]; simp, HC.out, HS.out⟩

end Go.Proofs.YtcbapmkipcffgaaDoor
