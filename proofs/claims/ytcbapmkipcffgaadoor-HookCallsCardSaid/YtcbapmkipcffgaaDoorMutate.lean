/-
  hook.Mutate: by what the mutator does. Conditions: none but rows of at most 1000 values.
-/
import Derived.Test.YtcbapmkipcffgaaDoorExt
namespace Go.Proofs.YtcbapmkipcffgaaDoor
open Go.RowKit Go.Extern.Stop Go.Stop Go.Extern Go.Lib
set_option maxRecDepth 1000000

/-- What user code that tells a record ends with. -/
def TellsL (N : Nat) (e : Ending) (w2 : World) : Prop :=
  (∃ (ao : Option Addr) (n c : Nat) (er : Value), e = .returned (.tuple #[.slice ao n c, er]) ∧ ((er = .nilIface ∧ ∃ L : List V, L.length ≤ 1000 ∧ ReadV w2 (.slice ao n c) L ∧ ∀ b off, ao = some ⟨b, off, none⟩ → b < N ∨ N + 6 ≤ b) ∨ ∃ D z, er = .iface D z)) ∨ ∃ T z, T ≠ 114 ∧ e = .panicked [{ v := .iface T z, recovered := false }]

/-- What the closure makes of it. -/
def CallL (bo : Nat) (w2 : World) (e0 e : Ending) (w' : World) : Prop :=
  (∃ (ao : Option Addr) (n c : Nat) (er : Value), e0 = .returned (.tuple #[.slice ao n c, er]) ∧ e = .returned er ∧ Same (fun k => k = bo) w2 w' ∧ One w' bo (.slice ao n c) 29) ∨ ∃ ch, e0 = .panicked ch ∧ e = .panicked ch ∧ w' = w2

set_option maxHeartbeats 8000000 in
theorem mut1_any {w : World} {bf bv bo N : Nat} {g : FuncId} {caps : Array Value} {vs z : Value} {L : List V} {F : Nat → Prop} {R : World → Ending → World → Prop}
    (hg : ∀ (args : Array Value) (w : World), (callFunc g args).run Tryd.prog w = .ok (.enter g args) w)
    (hbf : One w bf (.func (.func g) #[] caps) 99) (hbv : One w bv vs 29) (hbo : One w bo z 29) (hv : ReadV w vs L) (hn : L.length ≤ 1000)
    (hFo : ¬ F bo)
    (hf : ∀ w1 x, Same (fun _ => False) w w1 → w1.ownsRow w.heap.size 38 4 x L.length (vals L) → Calls Tryd.prog g (#[x] ++ caps) w1 fun e w2 => TellsL N e w2 ∧ Same (fun k => F k ∨ x.ownBlock = some k) w1 w2 ∧ R w1 e w2) :
    Calls Tryd.prog 65 #[.pointer (some ⟨bf, 0, none⟩), .pointer (some ⟨bv, 0, none⟩), .pointer (some ⟨bo, 0, none⟩)] w fun e w' =>
      ∃ w1 e0 w2, Same (fun _ => False) w w1 ∧ R w1 e0 w2 ∧ TellsL N e0 w2 ∧ Same F w w2 ∧ CallL bo w2 e0 e w' := by
  have c0 := hbf.cell
  have c1 := hbv.cell
  have hcl := fun (w' : World) (h : ReadV w' vs L) => clone_any h hn
  have e18 := hg
  have lf := hbf.lt
  have lv := hbv.lt
  have lo := hbo.lt
  have HCL := Lib.hid hcl; have HF := Lib.hid hf; have HV := Lib.hid hv; have HBO := Lib.hid hbo
  clear hcl hf hv hbo hbf hbv hg
  go_enter Tryd.func65, Tryd.ntmps65
  go_wp2_with fail
  go_region_law (first
      | (go_simp; refine (HCL.out _ (HV.out.same ((Same.refl _ w).drew))).mono ?_; rintro e w1 ⟨x, rfl, hx, hs1⟩; change w1.ownsRow w.heap.size _ 4 x _ _ at hx; have hd1 : Same (fun _ => False) w w1 := ((Same.refl _ w).drew).trans hs1 (fun _ _ h => h); have k0 := ocell hd1 c0 id; have k1 := ocell hd1 c1 id)
      | (go_simp; refine (HF.out _ _ hd1 hx).mono ?_; rintro e w2 ⟨ht, hs2, hr⟩; have hw2 : Same F w w2 := (hd1.weaken (fun _ _ h => h.elim)).trans hs2 (fun k hk h => h.elim id (fun h => absurd h (own_fresh hx hk))); rcases ht with ⟨ao, n, c, er, rfl, her⟩ | ⟨T, q, hT, rfl⟩; rotate_left; exact ⟨rfl, w1, _, w2, hd1, hr, Or.inr ⟨T, q, hT, rfl⟩, hw2, Or.inr ⟨_, rfl, rfl, rfl⟩⟩; have hob : One w2 bo z 29 := hw2.one HBO.out hFo; have o0 := hob.cell; have of := hob.free))
  all_goals
    have hend : CallL bo w2 (.returned (.tuple #[.slice ao n c, er])) (.returned er) (w2.setCell ⟨bo, 0, none⟩ (.slice ao n c)) :=
      Or.inl ⟨ao, n, c, er, rfl, rfl, (Same.refl (fun k => k = bo) w2).setCell (p := ⟨bo, 0, none⟩) (fun _ => rfl) _, hob.setCell _⟩
    have HEND := Lib.hid hend; have HR := Lib.hid hr; have HW := Lib.hid hw2; have HD := Lib.hid hd1
    have HT : Hid (TellsL N (.returned (.tuple #[.slice ao n c, er])) w2) := Lib.hid (Or.inl ⟨ao, n, c, er, rfl, her⟩)
    clear hend hr hw2 hd1 hs1 hs2 hx k0 k1 o0 of hob c0 c1 her
    go_wp2_with fail
    go_ret
    exact ⟨w1, _, w2, HD.out, HR.out, HT.out, HW.out, HEND.out⟩

theorem mut1_enter (args : Array Value) (w : World) : (callFunc 65 args).run Tryd.prog w = .ok (.enter 65 args) w := by kernel_rfl

/-- The three blocks that Mutate lays. -/
abbrev mutW (w : World) (g : FuncId) (caps : Array Value) (vs : Value) : World :=
  ((w.alloc (.cells #[.func (.func g) #[] caps] 99)).alloc (.cells #[vs] 29)).alloc (.cells #[.slice none 0 0] 29)

theorem mutW_size (w : World) (g : FuncId) (caps : Array Value) (vs : Value) : (mutW w g caps vs).heap.size = w.heap.size + 3 := by simp [mutW]
theorem mutW_same (w : World) (g : FuncId) (caps : Array Value) (vs : Value) : Same (fun _ => False) w (mutW w g caps vs) := (((Same.refl _ w).alloc _).alloc _).alloc _
theorem mutW_f (w : World) (g : FuncId) (caps : Array Value) (vs : Value) : One (mutW w g caps vs) w.heap.size (.func (.func g) #[] caps) 99 := ((One.new w _ _).alloc _).alloc _
theorem mutW_v (w : World) (g : FuncId) (caps : Array Value) (vs : Value) : One (mutW w g caps vs) (w.heap.size + 1) vs 29 := by
  have := (One.new (w.alloc (.cells #[.func (.func g) #[] caps] 99)) vs 29).alloc (.cells #[.slice none 0 0] 29)
  simpa using this
theorem mutW_o (w : World) (g : FuncId) (caps : Array Value) (vs : Value) : One (mutW w g caps vs) (w.heap.size + 1 + 1) (.slice none 0 0) 29 := by
  have := One.new ((w.alloc (.cells #[.func (.func g) #[] caps] 99)).alloc (.cells #[vs] 29)) (.slice none 0 0) 29
  simpa using this

theorem tuple2_fst {x y a b : Value} (h : Ending.returned (.tuple #[x, a]) = .returned (.tuple #[y, b])) : x = y := by
  simp only [Ending.returned.injEq, Value.tuple.injEq, Array.mk.injEq, List.cons.injEq, and_true] at h
  exact h.1

theorem mut_run {w : World} {g : FuncId} {caps : Array Value} {vs : Value} {L : List V} {F : Nat → Prop} {R : World → Ending → World → Prop}
    (hg : ∀ (args : Array Value) (w : World), (callFunc g args).run Tryd.prog w = .ok (.enter g args) w) (hv : ReadV w vs L) (hn : L.length ≤ 1000) (hF : ∀ k, F k → k < w.heap.size)
    (hf : ∀ w1 x, Same (fun _ => False) w w1 → w1.ownsRow (w.heap.size + 6) 38 4 x L.length (vals L) → w.heap.size + 6 ≤ w1.heap.size → Calls Tryd.prog g (#[x] ++ caps) w1 fun e w2 => TellsL w.heap.size e w2 ∧ Same (fun k => F k ∨ x.ownBlock = some k) w1 w2 ∧ R w1 e w2) :
    Calls Tryd.prog 20 #[.string ⟨#[]⟩, .func (.func 65) #[] #[.pointer (some ⟨w.heap.size, 0, none⟩), .pointer (some ⟨w.heap.size + 1, 0, none⟩), .pointer (some ⟨w.heap.size + 1 + 1, 0, none⟩)]] (mutW w g caps vs) fun e w' =>
      ∃ w1 e0 w2 e1 w3, Same (fun _ => False) w w1 ∧ w.heap.size + 6 ≤ w1.heap.size ∧ R w1 e0 w2 ∧ TellsL w.heap.size e0 w2 ∧ Same F w w2 ∧ w1.heap.size ≤ w2.heap.size ∧ CallL (w.heap.size + 1 + 1) w2 e0 e1 w3 ∧ Same (fun k => w.heap.size + 3 ≤ k ∧ k < w.heap.size + 6) w3 w' ∧ Told ⟨#[]⟩ e1 e w' := by
  have hsz := mutW_size w g caps vs
  have hs := mutW_same w g caps vs
  have hr := run3_same (mutW w g caps vs) ⟨#[]⟩
  have hs3 : Same (fun _ => False) w (run3 (mutW w g caps vs) ⟨#[]⟩) := hs.trans hr (fun _ _ h => h)
  have hsz3 : (run3 (mutW w g caps vs) ⟨#[]⟩).heap.size = w.heap.size + 6 := by rw [run3_size, hsz]
  have h1 := mut1_any (N := w.heap.size) (R := fun w1 e w2 => w.heap.size + 6 ≤ w1.heap.size ∧ w1.heap.size ≤ w2.heap.size ∧ R w1 e w2) hg (hr.one (mutW_f w g caps vs) id) (hr.one (mutW_v w g caps vs) id) (hr.one (mutW_o w g caps vs) id) (hv.same hs3) hn (F := F) (fun h => by have := hF _ h; omega) (fun w1 x k1 k2 => by
    rw [hsz3] at k2
    refine (hf w1 x (hs3.trans k1 (fun _ _ h => h)) k2 (by have := k1.size; omega)).mono fun e w2 ⟨q1, q2, q3⟩ => ⟨q1, q2, ?_, q2.size, q3⟩
    have := k1.size
    omega)
  refine (run_any (wh := ⟨#[]⟩) (w := mutW w g caps vs) (F := fun k => F k ∨ k = w.heap.size + 1 + 1)
    (R := fun e1 w3 => ∃ w1 e0 w2, Same (fun _ => False) w w1 ∧ w.heap.size + 6 ≤ w1.heap.size ∧ R w1 e0 w2 ∧ TellsL w.heap.size e0 w2 ∧ Same F w w2 ∧ w1.heap.size ≤ w2.heap.size ∧ CallL (w.heap.size + 1 + 1) w2 e0 e1 w3)
    (fun k hk => ?_) mut1_enter (h1.mono fun e w' hh => ?_)).mono ?_
  · rw [hsz]
    rcases hk with hk | rfl
    · have := hF k hk; omega
    · omega
  · obtain ⟨w1, e0, w2, a1, ⟨a2, a2', a3⟩, a4, a5, a6⟩ := hh
    have a52 : Same F w w2 := (hs3.weaken (fun _ _ h => h.elim)).trans a5 (fun _ _ h => h)
    refine ⟨?_, ⟨w1, e0, w2, hs3.trans a1 (fun _ _ h => h), a2, a3, a4, a52, a2', a6⟩, ?_⟩
    · rcases a6 with ⟨ao, n, c, er, rfl, rfl, b1, b2⟩ | ⟨c, rfl, rfl, rfl⟩
      · exact (a5.weaken (fun _ _ h => Or.inl h)).trans b1 (fun _ _ h => Or.inr h)
      · exact a5.weaken (fun _ _ h => Or.inl h)
    · rcases a6 with ⟨ao, n, c, er, rfl, rfl, b1, b2⟩ | ⟨c, rfl, rfl, rfl⟩
      · rcases a4 with ⟨ao', n', c', er', c2, c3⟩ | ⟨T, z, _, c2⟩
        · obtain rfl := tuple2_snd c2
          rcases c3 with ⟨rfl, _⟩ | ⟨D, z, rfl⟩
          · exact Or.inl rfl
          · exact Or.inr (Or.inl ⟨D, z, rfl⟩)
        · cases c2
      · rcases a4 with ⟨ao', n', c', er', c2, c3⟩ | ⟨T, z, c1, c2⟩
        · cases c2
        · cases c2
          exact Or.inr (Or.inr ⟨T, z, c1, rfl⟩)
  · rintro e w' ⟨e1, w3, ⟨w1, e0, w2, b1, b2, b3, b4, b5, b7, b8⟩, _, c2, c3⟩
    refine ⟨w1, e0, w2, e1, w3, b1, b2, b3, b4, b5, b7, b8, c2.weaken (fun k _ h => ?_), c3⟩
    rw [hsz] at h
    omega

/-- What Mutate tells, by what the user's code did. -/
def MutTold (base : Nat) (e0 e : Ending) (w2 w' : World) : Prop :=
  (∃ (ao : Option Addr) (n c : Nat) (L : List V) (u : Value), e0 = .returned (.tuple #[.slice ao n c, .nilIface]) ∧ L.length ≤ 1000 ∧ ReadV w2 (.slice ao n c) L ∧ e = .returned (.tuple #[u, .nilIface]) ∧ w'.ownsRow base 38 4 u L.length (vals L)) ∨
  (∃ (ao : Option Addr) (n c : Nat) (D : TypeId) (z : Value) (p : Nat), e0 = .returned (.tuple #[.slice ao n c, .iface D z]) ∧ e = .returned (.tuple #[.slice none 0 0, .iface 48 (.pointer (some ⟨p, 0, none⟩))]) ∧ w'.heap[p]? = some (faultObj ⟨#[]⟩ (.iface D z) .nilIface)) ∨
  (∃ (T : TypeId) (z : Value) (p : Nat), e0 = .panicked [{ v := .iface T z, recovered := false }] ∧ e = .returned (.tuple #[.slice none 0 0, .iface 48 (.pointer (some ⟨p, 0, none⟩))]) ∧ w'.heap[p]? = some (faultObj ⟨#[]⟩ .nilIface (.iface T z)))

theorem nilm (g : FuncId) (caps : Array Value) (w : World) : (binOp BinOp.eql 99 (.func (.func g) #[] caps) .nilFunc).run Tryd.prog w = .ok (.bool false) w := by kernel_rfl

/-- A row that lies in none of the blocks that turn is read as it was. -/
theorem ReadV.sameF {w w' : World} {v : Value} {L : List V} {F : Nat → Prop} (h : ReadV w v L) (hs : Same F w w') (hn : ∀ b off n c, v = .slice (some ⟨b, off, none⟩) n c → 0 < L.length → ¬ F b) : ReadV w' v L := by
  obtain ⟨ao, cap, rfl, hc⟩ := h
  refine ⟨ao, cap, rfl, fun j x hj => ?_⟩
  obtain ⟨b, off, rfl, hb, e0, e1, e2, e3⟩ := hc j x hj
  have hF : ¬ F b := hn b off _ _ rfl (by have := (List.getElem?_eq_some_iff.1 hj).1; omega)
  have hblk := hs.block b hb hF
  exact ⟨b, off, rfl, Nat.lt_of_lt_of_le hb hs.size, (World.cell?_of_block hblk).trans e0, (World.cell?_of_block hblk).trans e1, (World.cell?_of_block hblk).trans e2, (World.cell?_of_block hblk).trans e3⟩


/-- What stands behind the call, whatever comes of it. -/
structure MutAt (w w1 w2 w4 : World) (F : Nat → Prop) : Prop where
  s1 : Same (fun _ => False) w w1
  s2 : Same F w w2
  le : w.heap.size + 6 ≤ w1.heap.size
  le2 : w1.heap.size ≤ w2.heap.size
  s4 : Same (fun k => w.heap.size ≤ k ∧ k < w.heap.size + 6) w2 w4

set_option maxHeartbeats 8000000 in
theorem mutate_any {w : World} {g : FuncId} {caps : Array Value} {vs : Value} {L : List V} {F : Nat → Prop} {R : World → Ending → World → Prop}
    (hg : ∀ (args : Array Value) (w : World), (callFunc g args).run Tryd.prog w = .ok (.enter g args) w) (hv : ReadV w vs L) (hn : L.length ≤ 1000) (hF : ∀ k, F k → k < w.heap.size)
    (hf : ∀ w1 x, Same (fun _ => False) w w1 → w1.ownsRow (w.heap.size + 6) 38 4 x L.length (vals L) → w.heap.size + 6 ≤ w1.heap.size → Calls Tryd.prog g (#[x] ++ caps) w1 fun e w2 => TellsL w.heap.size e w2 ∧ Same (fun k => F k ∨ x.ownBlock = some k) w1 w2 ∧ R w1 e w2) :
    Calls Tryd.prog 28 #[.func (.func g) #[] caps, vs] w fun e w' =>
      ∃ w1 e0 w2, Same (fun _ => False) w w1 ∧ R w1 e0 w2 ∧ Same F w w2 ∧ w.heap.size + 6 ≤ w1.heap.size ∧ w1.heap.size ≤ w2.heap.size ∧ Same (fun k => w.heap.size ≤ k ∧ k < w.heap.size + 6) w2 w' ∧ MutTold (w.heap.size + 6) e0 e w2 w' := by
  have hnil := nilm g caps
  obtain ⟨vo, vc, rfl⟩ := readV_len hv
  have HR := Lib.hid (mut_run hg hv hn hF hf)
  clear hg hv hf
  go_enter Tryd.func28, Tryd.ntmps28
  go_wp2_with fail
  refine HR.out.mono ?_
  rintro e w4 ⟨w1, e0, w2, e1, w3, a1, a2, a3, a4, a5, a7, a8, a9, a10⟩
  have hs24 : Same (fun k => w.heap.size ≤ k ∧ k < w.heap.size + 6) w2 w4 := by
    rcases a8 with ⟨ao, n, c, er, _, _, b1, _⟩ | ⟨c, _, _, rfl⟩
    · exact (b1.weaken (fun k _ h => by subst h; omega)).trans a9 (fun k _ h => by omega)
    · exact a9.weaken (fun k _ h => by omega)
  have HAT := Lib.hid (show MutAt w w1 w2 w4 F from ⟨a1, a5, a2, a7, hs24⟩); have H3 := Lib.hid a3
  clear a1 a2 a3 a5 a7 hs24 HR
  rcases a8 with ⟨ao, n, c, er, rfl, rfl, b1, b2⟩ | ⟨ch, rfl, rfl, rfl⟩
  · rcases a10 with ⟨c1, rfl⟩ | ⟨D, x, p, c1, rfl, ho⟩ | ⟨T, x, p, c1, _⟩
    · obtain rfl : er = .nilIface := by simpa using c1
      obtain ⟨L', hL', hr', hb'⟩ : ∃ L' : List V, L'.length ≤ 1000 ∧ ReadV w2 (.slice ao n c) L' ∧ ∀ b off, ao = some ⟨b, off, none⟩ → b < w.heap.size ∨ w.heap.size + 6 ≤ b := by
        rcases a4 with ⟨ao', n', c', er', d1, d2⟩ | ⟨T, z, _, d2⟩
        · have e1 := tuple2_fst d1
          have e2 := tuple2_snd d1
          cases e1; cases e2
          rcases d2 with ⟨_, d3⟩ | ⟨D, z, d3⟩
          · exact d3
          · cases d3
        · cases d2
      have hr4 : ReadV w4 (.slice ao n c) L' := hr'.sameF HAT.out.s4 (fun b off n' c' e h0 hF' => by
        cases e
        have := hb' b off rfl
        omega)
      have c2 := (a9.one b2 (by omega)).cell
      have HCL := Lib.hid (clone_any hr4 hL'); have HR2 := Lib.hid hr'
      clear c1 b1 b2 a9 a4 hr4 hr' hb'
      go_wp2_with fail
      refine HCL.out.mono ?_
      rintro e w5 ⟨u, rfl, hu, hs5⟩
      have HU := Lib.hid (own_down hu (show w.heap.size + 6 ≤ w4.heap.size by
        have := HAT.out.le; have := HAT.out.le2; have := HAT.out.s4.size
        omega)); have HS5 := Lib.hid (HAT.out.s4.trans hs5 (fun _ _ h => h.elim))
      clear hu hs5 c2 HCL
      go_wp2_with fail
      go_ret2
      exact ⟨w1, _, w2, HAT.out.s1, H3.out, HAT.out.s2, HAT.out.le, HAT.out.le2, HS5.out, Or.inl ⟨ao, n, c, L', u, rfl, hL', HR2.out, rfl, HU.out⟩⟩
    · obtain rfl : er = .iface D x := by simpa using c1
      have HO := Lib.hid ho
      clear ho c1 b1 b2 a9 a4
      go_wp2_with fail
      go_ret2
      exact ⟨w1, _, w2, HAT.out.s1, H3.out, HAT.out.s2, HAT.out.le, HAT.out.le2, HAT.out.s4, Or.inr (Or.inl ⟨ao, n, c, D, x, _, rfl, rfl, HO.out⟩)⟩
    · cases c1
  · rcases a4 with ⟨ao', n', c', er', d1, _⟩ | ⟨T, z, hT, c2⟩
    · cases d1
    cases c2
    rcases a10 with ⟨c1, rfl⟩ | ⟨D, x, p, c1, rfl, ho⟩ | ⟨T', x, p, c1, rfl, ho⟩
    · cases c1
    · cases c1
    · cases c1
      have HO := Lib.hid ho
      clear ho a9
      go_wp2_with fail
      go_ret2
      exact ⟨w1, _, w3, HAT.out.s1, H3.out, HAT.out.s2, HAT.out.le, HAT.out.le2, HAT.out.s4, Or.inr (Or.inr ⟨T, z, _, rfl, rfl, HO.out⟩)⟩

end Go.Proofs.YtcbapmkipcffgaaDoor
