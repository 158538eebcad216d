/-
  HookValues: the walk: it answers true and turns nothing that was there. Condition: the variable that errors.As reads holds the type of error.
-/
import Derived.Test.YtcbapmkipcffgaaDoorExtract
import Derived.Test.YtcbapmkipcffgaaDoorMutate
import Derived.Test.YtcbapmkipcffgaaDoorHookKnown
import Derived.Test.YtcbapmkipcffgaaDoorTell
namespace Go.Proofs.YtcbapmkipcffgaaDoor
open Go.RowKit Go.Extern.Stop Go.Stop Go.Extern Go.Lib
set_option maxRecDepth 1000000

theorem same_to_below {W w' : World} (h : Same (fun k => W.heap.size ≤ k) W w') : Below W.heap.size W w' := ⟨h.os, h.tape, h.output, h.size, fun k hk => h.block k hk (by omega)⟩

/-- What came in is read as it was, where only blocks are turned that are new. -/
theorem ReadV.keep {W w' : World} {v : Value} {L : List V} (h : ReadV W v L) (hs : Same (fun k => W.heap.size ≤ k) W w') : ReadV w' v L := by
  obtain ⟨ao, cap, rfl, hc⟩ := h
  refine ⟨ao, cap, rfl, fun j x hj => ?_⟩
  obtain ⟨b, off, rfl, hb, e0, e1, e2, e3⟩ := hc j x hj
  have hblk := hs.block b hb (by omega)
  exact ⟨b, off, rfl, Nat.lt_of_lt_of_le hb hs.size, (World.cell?_of_block hblk).trans e0, (World.cell?_of_block hblk).trans e1, (World.cell?_of_block hblk).trans e2, (World.cell?_of_block hblk).trans e3⟩

theorem ReadV.one (w : World) (y : V) (c : Nat) : ReadV (w.alloc y.obj) (.slice (some ⟨w.heap.size, 0, none⟩) 1 c) [y] := by
  refine ⟨_, c, rfl, fun j x hj => ?_⟩
  have hj0 : j = 0 := by have := (List.getElem?_eq_some_iff.1 hj).1; simpa using this
  subst hj0
  simp at hj
  subst hj
  exact ⟨w.heap.size, 0, rfl, by simp, by simp, by simp, by simp, by simp⟩

theorem readV_inj {w : World} {v : Value} {A B : List V} (h : ReadV w v A) (g : ReadV w v B) : A = B := by
  obtain ⟨ao, cap, rfl, hc⟩ := h
  obtain ⟨bo, dap, e, gc⟩ := g
  simp only [Value.slice.injEq] at e
  obtain ⟨rfl, hl, rfl⟩ := e
  refine List.ext_getElem hl fun j h1 h2 => ?_
  obtain ⟨b, off, e1, _, a0, a1, a2, a3⟩ := hc j A[j] (List.getElem?_eq_getElem h1)
  obtain ⟨b', off', e2, _, b0, b1, b2, b3⟩ := gc j B[j] (List.getElem?_eq_getElem h2)
  rw [e1] at e2
  simp only [Option.some.injEq, Addr.mk.injEq, and_true] at e2
  obtain ⟨rfl, rfl⟩ := e2
  have q0 := a0.symm.trans b0
  have q1 := a1.symm.trans b1
  have q2 := a2.symm.trans b2
  have q3 := a3.symm.trans b3
  simp only [Option.some.injEq, Value.int.injEq, Value.string.injEq, Value.float.injEq, true_and] at q0 q1 q2 q3
  generalize A[j] = x at *
  generalize B[j] = z at *
  cases x; cases z
  simp only at q0 q1 q2 q3
  simp [q0, q1, q2, q3]

theorem hv1_enter (args : Array Value) (w : World) : (callFunc 27 args).run Tryd.prog w = .ok (.enter 27 args) w := by kernel_rfl
theorem hv2_enter (args : Array Value) (w : World) : (callFunc 29 args).run Tryd.prog w = .ok (.enter 29 args) w := by kernel_rfl

theorem hv1_any {w : World} {b : Nat} {y : V} (x : Value) (hx : ∃ ao n c, x = .slice ao n c) (hb : w.heap[b]? = some y.obj) :
    Calls Tryd.prog 27 #[x, .pointer (some ⟨b, 0, none⟩)] w fun e w' => e = .returned (.tuple #[y.val, .nilIface]) ∧ Same (fun _ => False) w w' := by
  obtain ⟨ao, n, c, rfl⟩ := hx
  obtain ⟨o0, o1, o2, o3⟩ := obj_cells hb
  have hl := lt_of_block hb
  clear hb
  go_enter Tryd.func27, Tryd.ntmps27
  go_wp2
  exact vret (x := y) rfl rfl (heap_alloc_new w y.obj) rfl rfl ⟨rfl, (Same.refl _ w).alloc _⟩

theorem hv2_any {w : World} {b : Nat} {ao : Option Addr} {n c : Nat} (x : Value) (hx : ∃ ao n c, x = .slice ao n c) (hb : One w b (.slice ao n c) 29) :
    Calls Tryd.prog 29 #[x, .pointer (some ⟨b, 0, none⟩)] w fun e w' => e = .returned (.tuple #[.slice ao n c, .nilIface]) ∧ w = w' := by
  obtain ⟨ao', n', c', rfl⟩ := hx
  have o0 := hb.cell
  clear hb
  go_enter Tryd.func29, Tryd.ntmps29
  go_wp2
  go_ret2
  exact ⟨rfl, rfl⟩

/-- Extract with the statement's extractor. -/
theorem hv_extract {w : World} {b : Nat} {y : V} (hy : y.ok) (hb : w.heap[b]? = some y.obj) :
    Calls Tryd.prog 26 #[.string ⟨#[119]⟩, .func (.func 27) #[] #[.pointer (some ⟨b, 0, none⟩)], .slice none 0 0] w fun e w' =>
      ∃ (x : V) (er : Value), e = .returned (.tuple #[x.val, er]) ∧ Same (fun _ => False) w w' ∧ ((x = y ∧ er = .nilIface) ∨ ∃ p, er = faultV p ∧ w'.heap[p]? = some (faultObj ⟨#[119]⟩ (.iface 46 (.int .i64 10)) .nilIface)) := by
  refine (extract_any (wh := ⟨#[119]⟩) (L := []) (F := fun _ => False) (R := fun _ e _ => e = .returned (.tuple #[y.val, .nilIface])) hv1_enter ⟨none, 0, rfl, fun j x hj => by simp at hj⟩ (by simp) (fun _ h => h.elim) (fun w1 x h1 h2 => ?_)).mono ?_
  · obtain ⟨xa, xc, hx⟩ := readV_len (ReadV.own h2)
    refine (hv1_any x ⟨_, _, _, hx⟩ (h1.obj hb id)).mono fun e w2 ⟨q1, q2⟩ => ⟨Or.inl ⟨y, _, hy, q1, Or.inl rfl⟩, q2.weaken (fun _ _ h => h.elim), q1⟩
  · rintro e w' ⟨w1, e0, w2, a1, rfl, a3, a4, a5, a6, a7, a8⟩
    have hs : Same (fun _ => False) w w' := a4.trans a7 (fun k hk h => by omega)
    rcases a8 with ⟨z, c1, _, rfl⟩ | ⟨z, p, c1, _, rfl, ho⟩ | ⟨z, D, q, p, c1, _⟩ | ⟨T, q, p, c1, _⟩
    · exact ⟨z, _, rfl, hs, Or.inl ⟨(tuple2_val c1).symm, rfl⟩⟩
    · exact ⟨V.nil, _, rfl, hs, Or.inr ⟨p, rfl, ho⟩⟩
    · have := tuple2_snd c1
      cases this
    · cases c1

/-- Mutate with the statement's mutator. -/
theorem hv_mutate {w : World} {b : Nat} {ao : Option Addr} {n c : Nat} {L : List V} (hn : L.length ≤ 1000) (hb : One w b (.slice ao n c) 29) (hr : ReadV w (.slice ao n c) L) (hlt : ∀ g off, ao = some ⟨g, off, none⟩ → g < w.heap.size) :
    Calls Tryd.prog 28 #[.func (.func 29) #[] #[.pointer (some ⟨b, 0, none⟩)], .slice none 0 0] w fun e w' =>
      ∃ u, e = .returned (.tuple #[u, .nilIface]) ∧ Same (fun _ => False) w w' ∧ w'.ownsRow w.heap.size 38 4 u L.length (vals L) := by
  refine (mutate_any (L := []) (F := fun _ => False) (R := fun _ e w2 => e = .returned (.tuple #[.slice ao n c, .nilIface]) ∧ ReadV w2 (.slice ao n c) L) hv2_enter ⟨none, 0, rfl, fun j x hj => by simp at hj⟩ (by simp) (fun _ h => h.elim) (fun w1 x h1 h2 _ => ?_)).mono ?_
  · obtain ⟨xa, xc, hx⟩ := readV_len (ReadV.own h2)
    refine (hv2_any x ⟨_, _, _, hx⟩ (h1.one hb id)).mono fun e w2 ⟨q1, q2⟩ => ?_
    subst q2
    have hr1 := hr.same h1
    exact ⟨Or.inl ⟨ao, n, c, _, q1, Or.inl ⟨rfl, L, hn, hr1, fun g off e => Or.inl (hlt g off e)⟩⟩, Same.refl _ _, q1, hr1⟩
  · rintro e w' ⟨w1, e0, w2, a1, ⟨rfl, a2⟩, a4, a5, a6, a7, a8⟩
    have hs : Same (fun _ => False) w w' := a4.trans a7 (fun k hk h => by omega)
    rcases a8 with ⟨ao', n', c', L', u, c1, hl, hr', rfl, hu⟩ | ⟨ao', n', c', D, q, p, c1, _⟩ | ⟨T, q, p, c1, _⟩
    · have e1 := tuple2_fst c1
      rw [← e1] at hr'
      obtain rfl := readV_inj hr' a2
      exact ⟨u, rfl, hs, own_down hu (by omega)⟩
    · have := tuple2_snd c1
      cases this
    · cases c1

/-- A row of the call's own, not empty: its first element may be written. -/
theorem own_first {w : World} {B n : Nat} {v : Value} {xs : List Value} (h : w.ownsRow B 38 4 v n xs) (hn : 0 < n) :
    ∃ g cap, v = .slice (some ⟨g, 0, none⟩) n cap ∧ B ≤ g ∧ g < w.heap.size ∧ n ≤ cap ∧ cap ≤ maxLen ∧ (∃ cur, w.heap[g]? = some (.cells cur 38 (0, 0))) ∧ (∀ o, w.frozen? ⟨g, o, none⟩ = false) ∧ ∀ o, o < 4 → ∃ q, w.cell? ⟨g, o, none⟩ = some q := by
  rcases h.2 with ⟨_, h0⟩ | ⟨g, cap, cur, rfl, hbg, hh, hnc, hcm, hcs, _⟩
  · omega
  · refine ⟨g, cap, rfl, hbg, lt_of_block hh, hnc, hcm, ⟨cur, hh⟩, fun o => by simp [World.frozen?, hh], fun o ho => ?_⟩
    have hsz : o < cur.size := by omega
    exact ⟨cur[o], by simp [World.cell?, hh, hsz]⟩

end Go.Proofs.YtcbapmkipcffgaaDoor
