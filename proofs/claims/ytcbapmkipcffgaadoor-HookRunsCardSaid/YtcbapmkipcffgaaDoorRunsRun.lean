/-
  HookRuns: whatever user code does: the call comes back, called once; what it did is told, wrapped. Conditions: none.
-/
import Derived.Test.YtcbapmkipcffgaaDoorRuns
import Derived.Deep.RegionHeld3
import Derived.Deep.RegionLaw
namespace Go.Proofs.YtcbapmkipcffgaaDoor
open Go.RowKit Go.Extern.Stop Go.Stop Go.Extern Go.Lib
set_option maxRecDepth 1000000

theorem enter21 (args : Array Value) (w : World) : (callFunc 21 args).run Tryd.prog w = .ok (.enter 21 args) w := by kernel_rfl

theorem runsEnd_plain {how n : Int} {pe : Nat} {e : Ending} (h : RunsEnd how n pe e) : Plain e := by
  unfold RunsEnd at h
  split at h
  · exact Or.inr (Or.inl ⟨_, _, h⟩)
  · split at h
    · exact Or.inr (Or.inr ⟨_, _, by decide, h⟩)
    · split at h
      · exact Or.inr (Or.inr ⟨_, _, by decide, h⟩)
      · split at h
        · obtain ⟨v, h⟩ := h
          exact Or.inr (Or.inr ⟨_, _, by decide, h⟩)
        · split at h
          · exact Or.inr (Or.inl ⟨_, _, h⟩)
          · split at h
            · exact Or.inr (Or.inr ⟨_, _, by decide, h⟩)
            · exact Or.inl h

theorem runs_run {w : World} {wh : ByteArray} {bc bh bm bn pe : Nat} {how n : Int} (hc : One w bc (.int .i64 0) 3) (hh : One w bh (.int .i64 how) 3) (hm : One w bm (.pointer (some ⟨pe, 0, none⟩)) 41) (hn : One w bn (.int .i64 n) 3)
    (h1 : bh ≠ bc) (h2 : bm ≠ bc) (h3 : bn ≠ bc) :
    Calls Tryd.prog 20 #[.string wh, .func (.func 21) #[] #[.pointer (some ⟨bc, 0, none⟩), .pointer (some ⟨bh, 0, none⟩), .pointer (some ⟨bm, 0, none⟩), .pointer (some ⟨bn, 0, none⟩)]] w fun e w' =>
      (∃ e0, RunsEnd how n pe e0 ∧ Told wh e0 e w') ∧ One w' bc (.int .i64 1) 3 ∧ Same (fun k => k = bc) w w' := by
  have hr := run3_same w wh
  have hb := runs1_does (hr.one hc id) (hr.one hh id) (hr.one hm id) (hr.one hn id) h1 h2 h3
  refine (run_any (wh := wh) (w := w) (R := fun e w2 => RunsEnd how n pe e ∧ One w2 bc (.int .i64 1) 3) (F := fun k => k = bc) (fun k hk => by rw [hk]; exact hc.lt) enter21 (hb.mono fun e w2 ⟨q1, q2, q3⟩ => ⟨q3, ⟨q1, q2⟩, runsEnd_plain q1⟩)).mono ?_
  rintro e w' ⟨e0, w0, ⟨q1, q2⟩, hs0, hs1, ht⟩
  have hl := hc.lt
  exact ⟨⟨e0, q1, ht⟩, hs1.one q2 (fun h => by omega), hs0.trans hs1 (fun k hk h => by omega)⟩

/-- What Run told, by 'how & 7'. -/
theorem runs_told {how n : Int} {pe : Nat} {wh : ByteArray} {e0 e : Ending} {w : World} (h : RunsEnd how n pe e0) (ht : Told wh e0 e w) :
    ((how % 8 = 0 ∨ how % 8 = 7) ∧ e = .returned .nilIface) ∨ (∃ p err pan, e = .returned (faultV p) ∧ w.heap[p]? = some (faultObj wh err pan) ∧
      ((how % 8 = 1 ∧ err = markV pe ∧ pan = .nilIface) ∨ (how % 8 = 2 ∧ err = .nilIface ∧ pan = markV pe) ∨ (how % 8 = 3 ∧ err = .nilIface ∧ pan = .iface 3 (.int .i64 n)) ∨
       (how % 8 = 4 ∧ err = .nilIface ∧ ∃ v, pan = .iface 8 v) ∨ (how % 8 = 5 ∧ err = errNo 70 ∧ pan = .nilIface) ∨ (how % 8 = 6 ∧ err = .nilIface ∧ pan = .iface 9 (.string ⟨#[116, 101, 120, 116]⟩)))) := by
  unfold RunsEnd at h
  have tell : ∀ D x, e0 = .returned (.iface D x) → ∃ p, e = .returned (faultV p) ∧ w.heap[p]? = some (faultObj wh (.iface D x) .nilIface) := by
    intro D x h0
    subst h0
    rcases ht with ⟨h, _⟩ | ⟨D', x', p, h, rfl, ho⟩ | ⟨T, x', p, h, _⟩
    · cases h
    · cases h
      exact ⟨p, rfl, ho⟩
    · cases h
  have pani : ∀ T x, e0 = .panicked [{ v := .iface T x, recovered := false }] → ∃ p, e = .returned (faultV p) ∧ w.heap[p]? = some (faultObj wh .nilIface (.iface T x)) := by
    intro T x h0
    subst h0
    rcases ht with ⟨h, _⟩ | ⟨D', x', p, h, _⟩ | ⟨T', x', p, h, rfl, ho⟩
    · cases h
    · cases h
    · simp only [Ending.panicked.injEq, List.cons.injEq, PanicEntry.mk.injEq, Value.iface.injEq, and_true] at h
      obtain ⟨rfl, rfl⟩ := h
      exact ⟨p, rfl, ho⟩
  split at h
  · rename_i hq
    obtain ⟨p, e1, e2⟩ := tell _ _ h
    exact Or.inr ⟨p, _, _, e1, e2, Or.inl ⟨hq, rfl, rfl⟩⟩
  · split at h
    · rename_i hq
      obtain ⟨p, e1, e2⟩ := pani _ _ h
      exact Or.inr ⟨p, _, _, e1, e2, Or.inr (Or.inl ⟨hq, rfl, rfl⟩)⟩
    · split at h
      · rename_i hq
        obtain ⟨p, e1, e2⟩ := pani _ _ h
        exact Or.inr ⟨p, _, _, e1, e2, Or.inr (Or.inr (Or.inl ⟨hq, rfl, rfl⟩))⟩
      · split at h
        · rename_i hq
          obtain ⟨v, h⟩ := h
          obtain ⟨p, e1, e2⟩ := pani _ _ h
          exact Or.inr ⟨p, _, _, e1, e2, Or.inr (Or.inr (Or.inr (Or.inl ⟨hq, rfl, v, rfl⟩)))⟩
        · split at h
          · rename_i hq
            obtain ⟨p, e1, e2⟩ := tell _ _ h
            exact Or.inr ⟨p, _, _, e1, e2, Or.inr (Or.inr (Or.inr (Or.inr (Or.inl ⟨hq, rfl, rfl⟩))))⟩
          · split at h
            · rename_i hq
              obtain ⟨p, e1, e2⟩ := pani _ _ h
              exact Or.inr ⟨p, _, _, e1, e2, Or.inr (Or.inr (Or.inr (Or.inr (Or.inr ⟨hq, rfl, rfl⟩))))⟩
            · refine Or.inl ⟨by omega, ?_⟩
              subst h
              rcases ht with ⟨_, h⟩ | ⟨D', x', p, h, _⟩ | ⟨T', x', p, h, _⟩
              · exact h
              · cases h
              · cases h

end Go.Proofs.YtcbapmkipcffgaaDoor
