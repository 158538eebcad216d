/-
  hook.Compare: by what the comparator does. Conditions: none but rows of at most 1000 values.
-/
import Derived.Test.YtcbapmkipcffgaaDoorMutate
namespace Go.Proofs.YtcbapmkipcffgaaDoor
open Go.RowKit Go.Extern.Stop Go.Stop Go.Extern Go.Lib
set_option maxRecDepth 1000000

/-- What user code that holds two keys against one another ends with. -/
def TellsI (e : Ending) : Prop := (∃ (n : Int) (er : Value), -9223372036854775808 ≤ n ∧ n ≤ 9223372036854775807 ∧ e = .returned (.tuple #[.int .i64 n, er]) ∧ (er = .nilIface ∨ ∃ D z, er = .iface D z)) ∨ ∃ T z, T ≠ 114 ∧ e = .panicked [{ v := .iface T z, recovered := false }]

/-- What the closure makes of it. -/
def CallI (bo : Nat) (w2 : World) (e0 e : Ending) (w' : World) : Prop :=
  (∃ (n : Int) (er : Value), e0 = .returned (.tuple #[.int .i64 n, er]) ∧ e = .returned er ∧ Same (fun k => k = bo) w2 w' ∧ One w' bo (.int .i64 n) 3) ∨ ∃ ch, e0 = .panicked ch ∧ e = .panicked ch ∧ w' = w2

set_option maxHeartbeats 8000000 in
theorem cmp1_any {w : World} {bf ba bb bo : Nat} {g : FuncId} {caps : Array Value} {va vb z : Value} {A B : List V} {F : Nat → Prop} {R : World → Ending → World → Prop}
    (hg : ∀ (args : Array Value) (w : World), (callFunc g args).run Tryd.prog w = .ok (.enter g args) w)
    (hbf : One w bf (.func (.func g) #[] caps) 98) (hba : One w ba va 29) (hbb : One w bb vb 29) (hbo : One w bo z 3) (hva : ReadV w va A) (hna : A.length ≤ 1000) (hvb : ReadV w vb B) (hnb : B.length ≤ 1000)
    (hFo : ¬ F bo)
    (hf : ∀ w1 x y, Same (fun _ => False) w w1 → w1.ownsRow w.heap.size 38 4 x A.length (vals A) → w1.ownsRow w.heap.size 38 4 y B.length (vals B) → Calls Tryd.prog g (#[x, y] ++ caps) w1 fun e w2 => TellsI e ∧ Same (fun k => F k ∨ x.ownBlock = some k ∨ y.ownBlock = some k) w1 w2 ∧ R w1 e w2) :
    Calls Tryd.prog 78 #[.pointer (some ⟨bf, 0, none⟩), .pointer (some ⟨ba, 0, none⟩), .pointer (some ⟨bb, 0, none⟩), .pointer (some ⟨bo, 0, none⟩)] w fun e w' =>
      ∃ w1 e0 w2, Same (fun _ => False) w w1 ∧ R w1 e0 w2 ∧ TellsI e0 ∧ Same F w w2 ∧ CallI bo w2 e0 e w' := by
  have c0 := hbf.cell
  have c1 := hba.cell
  have c2 := hbb.cell
  have hcla := fun (w' : World) (h : ReadV w' va A) => clone_any h hna
  have hclb := fun (w' : World) (h : ReadV w' vb B) => clone_any h hnb
  have e18 := hg
  have lf := hbf.lt
  have la := hba.lt
  have lb := hbb.lt
  have lo := hbo.lt
  have HCA := Lib.hid hcla; have HCB := Lib.hid hclb; have HF := Lib.hid hf; have HVA := Lib.hid hva; have HVB := Lib.hid hvb; have HBO := Lib.hid hbo
  clear hcla hclb hf hva hvb hbo hbf hba hbb hg
  go_enter Tryd.func78, Tryd.ntmps78
  go_wp2_with fail
  go_region_law (first
      | (go_simp; refine (HCA.out _ (HVA.out.same ((Same.refl _ w).drew))).mono ?_; rintro e wA ⟨x, rfl, hx, hs1⟩; change wA.ownsRow w.heap.size _ 4 x _ _ at hx; have hdA : Same (fun _ => False) w wA := ((Same.refl _ w).drew).trans hs1 (fun _ _ h => h); have a0 := ocell hdA c0 id; have a1 := ocell hdA c1 id; have a2 := ocell hdA c2 id)
      | (go_simp; refine (HCB.out _ (HVB.out.same hdA)).mono ?_; rintro e w1 ⟨y, rfl, hy, hs2⟩; have hx1 := hs2.row hx (fun _ _ => id); have hy1 := own_down hy (show w.heap.size ≤ wA.heap.size from hdA.size); have hd1 : Same (fun _ => False) w w1 := hdA.trans hs2 (fun _ _ h => h); have k0 := ocell hd1 c0 id; have k1 := ocell hd1 c1 id; have k2 := ocell hd1 c2 id)
      | (go_simp; refine (HF.out _ _ _ hd1 hx1 hy1).mono ?_; rintro e w2 ⟨ht, hs3, hr⟩; have hw2 : Same F w w2 := (hd1.weaken (fun _ _ h => h.elim)).trans hs3 (fun k hk h => h.elim id (fun h => h.elim (fun h => absurd h (own_fresh hx1 hk)) (fun h => absurd h (own_fresh hy1 hk)))); rcases ht with ⟨n, er, hn1, hn2, rfl, her⟩ | ⟨T, q, hT, rfl⟩; rotate_left; exact ⟨rfl, w1, _, w2, hd1, hr, Or.inr ⟨T, q, hT, rfl⟩, hw2, Or.inr ⟨_, rfl, rfl, rfl⟩⟩; have hob : One w2 bo z 3 := hw2.one HBO.out hFo; have o0 := hob.cell; have of := hob.free))
  all_goals
    have hend : CallI bo w2 (.returned (.tuple #[.int .i64 n, er])) (.returned er) (w2.setCell ⟨bo, 0, none⟩ (.int .i64 n)) :=
      Or.inl ⟨n, er, rfl, rfl, (Same.refl (fun k => k = bo) w2).setCell (p := ⟨bo, 0, none⟩) (fun _ => rfl) _, hob.setCell _⟩
    have HEND := Lib.hid hend; have HR := Lib.hid hr; have HW := Lib.hid hw2; have HD := Lib.hid hd1
    have HT : Hid (TellsI (.returned (.tuple #[.int .i64 n, er]))) := Lib.hid (Or.inl ⟨n, er, hn1, hn2, rfl, her⟩)
    clear hend hr hw2 hd1 hs1 hs2 hs3 hx hy hx1 hy1 hdA a0 a1 a2 k0 k1 k2 o0 of hob c0 c1 c2 her
    go_wp2_with fail
    go_ret
    exact ⟨w1, _, w2, HD.out, HR.out, HT.out, HW.out, HEND.out⟩

theorem cmp1_enter (args : Array Value) (w : World) : (callFunc 78 args).run Tryd.prog w = .ok (.enter 78 args) w := by kernel_rfl

/-- The four blocks that Compare lays. -/
abbrev cmpW (w : World) (g : FuncId) (caps : Array Value) (va vb : Value) : World :=
  (((w.alloc (.cells #[.func (.func g) #[] caps] 98)).alloc (.cells #[va] 29)).alloc (.cells #[vb] 29)).alloc (.cells #[.int .i64 0] 3)

section
variable (w : World) (g : FuncId) (caps : Array Value) (va vb : Value)
theorem cmpW_size : (cmpW w g caps va vb).heap.size = w.heap.size + 4 := by simp [cmpW]
theorem cmpW_same : Same (fun _ => False) w (cmpW w g caps va vb) := ((((Same.refl _ w).alloc _).alloc _).alloc _).alloc _
theorem cmpW_f : One (cmpW w g caps va vb) w.heap.size (.func (.func g) #[] caps) 98 := (((One.new w _ _).alloc _).alloc _).alloc _
theorem cmpW_a : One (cmpW w g caps va vb) (w.heap.size + 1) va 29 := by
  have := ((One.new (w.alloc (.cells #[.func (.func g) #[] caps] 98)) va 29).alloc (.cells #[vb] 29)).alloc (.cells #[.int .i64 0] 3)
  simpa using this
theorem cmpW_b : One (cmpW w g caps va vb) (w.heap.size + 1 + 1) vb 29 := by
  have := (One.new ((w.alloc (.cells #[.func (.func g) #[] caps] 98)).alloc (.cells #[va] 29)) vb 29).alloc (.cells #[.int .i64 0] 3)
  simpa using this
theorem cmpW_o : One (cmpW w g caps va vb) (w.heap.size + 1 + 1 + 1) (.int .i64 0) 3 := by
  have := One.new (((w.alloc (.cells #[.func (.func g) #[] caps] 98)).alloc (.cells #[va] 29)).alloc (.cells #[vb] 29)) (.int .i64 0) 3
  simpa using this
end

theorem cmp_run {w : World} {wh : ByteArray} {g : FuncId} {caps : Array Value} {va vb : Value} {A B : List V} {F : Nat → Prop} {R : World → Ending → World → Prop}
    (hg : ∀ (args : Array Value) (w : World), (callFunc g args).run Tryd.prog w = .ok (.enter g args) w) (hva : ReadV w va A) (hna : A.length ≤ 1000) (hvb : ReadV w vb B) (hnb : B.length ≤ 1000) (hF : ∀ k, F k → k < w.heap.size)
    (hf : ∀ w1 x y, Same (fun _ => False) w w1 → w1.ownsRow (w.heap.size + 7) 38 4 x A.length (vals A) → w1.ownsRow (w.heap.size + 7) 38 4 y B.length (vals B) → Calls Tryd.prog g (#[x, y] ++ caps) w1 fun e w2 => TellsI e ∧ Same (fun k => F k ∨ x.ownBlock = some k ∨ y.ownBlock = some k) w1 w2 ∧ R w1 e w2) :
    Calls Tryd.prog 20 #[.string wh, .func (.func 78) #[] #[.pointer (some ⟨w.heap.size, 0, none⟩), .pointer (some ⟨w.heap.size + 1, 0, none⟩), .pointer (some ⟨w.heap.size + 1 + 1, 0, none⟩), .pointer (some ⟨w.heap.size + 1 + 1 + 1, 0, none⟩)]] (cmpW w g caps va vb) fun e w' =>
      ∃ w1 e0 w2 e1 w3, Same (fun _ => False) w w1 ∧ w.heap.size + 7 ≤ w1.heap.size ∧ R w1 e0 w2 ∧ TellsI e0 ∧ Same F w w2 ∧ w1.heap.size ≤ w2.heap.size ∧ CallI (w.heap.size + 1 + 1 + 1) w2 e0 e1 w3 ∧ Same (fun k => w.heap.size + 4 ≤ k ∧ k < w.heap.size + 7) w3 w' ∧ Told wh e1 e w' := by
  have hsz := cmpW_size w g caps va vb
  have hs := cmpW_same w g caps va vb
  have hr := run3_same (cmpW w g caps va vb) wh
  have hs3 : Same (fun _ => False) w (run3 (cmpW w g caps va vb) wh) := hs.trans hr (fun _ _ h => h)
  have hsz3 : (run3 (cmpW w g caps va vb) wh).heap.size = w.heap.size + 7 := by rw [run3_size, hsz]
  have h1 := cmp1_any (R := fun w1 e w2 => w.heap.size + 7 ≤ w1.heap.size ∧ w1.heap.size ≤ w2.heap.size ∧ R w1 e w2) hg (hr.one (cmpW_f w g caps va vb) id) (hr.one (cmpW_a w g caps va vb) id) (hr.one (cmpW_b w g caps va vb) id) (hr.one (cmpW_o w g caps va vb) id) (hva.same hs3) hna (hvb.same hs3) hnb (F := F) (fun h => by have := hF _ h; omega) (fun w1 x y k1 k2 k3 => by
    rw [hsz3] at k2 k3
    refine (hf w1 x y (hs3.trans k1 (fun _ _ h => h)) k2 k3).mono fun e w2 ⟨q1, q2, q3⟩ => ⟨q1, q2, ?_, q2.size, q3⟩
    have := k1.size
    omega)
  refine (run_any (wh := wh) (w := cmpW w g caps va vb) (F := fun k => F k ∨ k = w.heap.size + 1 + 1 + 1)
    (R := fun e1 w3 => ∃ w1 e0 w2, Same (fun _ => False) w w1 ∧ w.heap.size + 7 ≤ w1.heap.size ∧ R w1 e0 w2 ∧ TellsI e0 ∧ Same F w w2 ∧ w1.heap.size ≤ w2.heap.size ∧ CallI (w.heap.size + 1 + 1 + 1) w2 e0 e1 w3)
    (fun k hk => ?_) cmp1_enter (h1.mono fun e w' hh => ?_)).mono ?_
  · rw [hsz]
    rcases hk with hk | rfl
    · have := hF k hk; omega
    · omega
  · obtain ⟨w1, e0, w2, a1, ⟨a2, a2', a3⟩, a4, a5, a6⟩ := hh
    have a52 : Same F w w2 := (hs3.weaken (fun _ _ h => h.elim)).trans a5 (fun _ _ h => h)
    refine ⟨?_, ⟨w1, e0, w2, hs3.trans a1 (fun _ _ h => h), a2, a3, a4, a52, a2', a6⟩, ?_⟩
    · rcases a6 with ⟨n, er, rfl, rfl, b1, b2⟩ | ⟨c, rfl, rfl, rfl⟩
      · exact (a5.weaken (fun _ _ h => Or.inl h)).trans b1 (fun _ _ h => Or.inr h)
      · exact a5.weaken (fun _ _ h => Or.inl h)
    · rcases a6 with ⟨n, er, rfl, rfl, b1, b2⟩ | ⟨c, rfl, rfl, rfl⟩
      · rcases a4 with ⟨n', er', _, _, c2, c3⟩ | ⟨T, z, _, c2⟩
        · obtain rfl := tuple2_snd c2
          rcases c3 with rfl | ⟨D, z, rfl⟩
          · exact Or.inl rfl
          · exact Or.inr (Or.inl ⟨D, z, rfl⟩)
        · cases c2
      · rcases a4 with ⟨n', er', _, _, c2, c3⟩ | ⟨T, z, c1, c2⟩
        · cases c2
        · cases c2
          exact Or.inr (Or.inr ⟨T, z, c1, rfl⟩)
  · rintro e w' ⟨e1, w3, ⟨w1, e0, w2, b1, b2, b3, b4, b5, b7, b8⟩, _, c2, c3⟩
    refine ⟨w1, e0, w2, e1, w3, b1, b2, b3, b4, b5, b7, b8, c2.weaken (fun k _ h => ?_), c3⟩
    rw [hsz] at h
    omega

/-- Two numbers held against one another; the sign of one. -/
def cmpI (m n : Int) : Int := if m < n then -1 else if n < m then 1 else 0
abbrev sgnI (n : Int) : Int := cmpI n 0

/-- What Compare tells, by what the user's code did. -/
def CmpTold (wh : ByteArray) (e0 e : Ending) (w' : World) : Prop :=
  (∃ n : Int, e0 = .returned (.tuple #[.int .i64 n, .nilIface]) ∧ e = .returned (.tuple #[.int .i64 (sgnI n), .nilIface])) ∨
  (∃ (n : Int) (D : TypeId) (z : Value) (p : Nat), e0 = .returned (.tuple #[.int .i64 n, .iface D z]) ∧ e = .returned (.tuple #[.int .i64 0, .iface 48 (.pointer (some ⟨p, 0, none⟩))]) ∧ w'.heap[p]? = some (faultObj wh (.iface D z) .nilIface)) ∨
  (∃ (T : TypeId) (z : Value) (p : Nat), e0 = .panicked [{ v := .iface T z, recovered := false }] ∧ e = .returned (.tuple #[.int .i64 0, .iface 48 (.pointer (some ⟨p, 0, none⟩))]) ∧ w'.heap[p]? = some (faultObj wh .nilIface (.iface T z)))

theorem nilc (g : FuncId) (caps : Array Value) (w : World) : (binOp BinOp.eql 98 (.func (.func g) #[] caps) .nilFunc).run Tryd.prog w = .ok (.bool false) w := by kernel_rfl

theorem ccmp_int (m n : Int) (w : World) : Calls Tryd.prog 79 #[.int .i64 m, .int .i64 n] w fun e w' => e = .returned (.int .i64 (cmpI m n)) ∧ w = w' := by
  go_enter Tryd.func79, Tryd.ntmps79
  by_cases h1 : m < n
  · go_wp2
    go_ret
    exact ⟨ret_i64 (by unfold cmpI; split <;> (try split) <;> omega), rfl⟩
  · by_cases h2 : n < m
    · go_wp2
      go_ret
      exact ⟨ret_i64 (by unfold cmpI; split <;> (try split) <;> omega), rfl⟩
    · go_wp2
      go_ret
      exact ⟨ret_i64 (by unfold cmpI; split <;> (try split) <;> omega), rfl⟩

/-- What stands behind the call, whatever comes of it. -/
structure CmpAt (w w1 w2 w4 : World) (F : Nat → Prop) : Prop where
  s1 : Same (fun _ => False) w w1
  s2 : Same F w w2
  le : w.heap.size + 7 ≤ w1.heap.size
  le2 : w1.heap.size ≤ w2.heap.size
  s4 : Same (fun k => w.heap.size ≤ k ∧ k < w.heap.size + 7) w2 w4

set_option maxHeartbeats 8000000 in
theorem hcompare_any {w : World} {wh : ByteArray} {g : FuncId} {caps : Array Value} {va vb : Value} {A B : List V} {F : Nat → Prop} {R : World → Ending → World → Prop}
    (hg : ∀ (args : Array Value) (w : World), (callFunc g args).run Tryd.prog w = .ok (.enter g args) w) (hva : ReadV w va A) (hna : A.length ≤ 1000) (hvb : ReadV w vb B) (hnb : B.length ≤ 1000) (hF : ∀ k, F k → k < w.heap.size)
    (hf : ∀ w1 x y, Same (fun _ => False) w w1 → w1.ownsRow (w.heap.size + 7) 38 4 x A.length (vals A) → w1.ownsRow (w.heap.size + 7) 38 4 y B.length (vals B) → Calls Tryd.prog g (#[x, y] ++ caps) w1 fun e w2 => TellsI e ∧ Same (fun k => F k ∨ x.ownBlock = some k ∨ y.ownBlock = some k) w1 w2 ∧ R w1 e w2) :
    Calls Tryd.prog 43 #[.string wh, .func (.func g) #[] caps, va, vb] w fun e w' =>
      ∃ w1 e0 w2, Same (fun _ => False) w w1 ∧ R w1 e0 w2 ∧ Same F w w2 ∧ w.heap.size + 7 ≤ w1.heap.size ∧ w1.heap.size ≤ w2.heap.size ∧ Same (fun k => w.heap.size ≤ k ∧ k < w.heap.size + 7) w2 w' ∧ CmpTold wh e0 e w' := by
  have hnil := nilc g caps
  obtain ⟨ao, ac, rfl⟩ := readV_len hva
  obtain ⟨bo, bc, rfl⟩ := readV_len hvb
  have HR := Lib.hid (cmp_run (wh := wh) hg hva hna hvb hnb hF hf)
  clear hg hva hvb hf
  go_enter Tryd.func43, Tryd.ntmps43
  go_wp2_with fail
  refine HR.out.mono ?_
  rintro e w4 ⟨w1, e0, w2, e1, w3, a1, a2, a3, a4, a5, a7, a8, a9, a10⟩
  have hs24 : Same (fun k => w.heap.size ≤ k ∧ k < w.heap.size + 7) w2 w4 := by
    rcases a8 with ⟨n, er, _, _, b1, _⟩ | ⟨c, _, _, rfl⟩
    · exact (b1.weaken (fun k _ h => by subst h; omega)).trans a9 (fun k _ h => by omega)
    · exact a9.weaken (fun k _ h => by omega)
  have HAT := Lib.hid (show CmpAt w w1 w2 w4 F from ⟨a1, a5, a2, a7, hs24⟩); have H3 := Lib.hid a3
  clear a1 a2 a3 a5 a7 hs24 HR
  rcases a8 with ⟨n, er, rfl, rfl, b1, b2⟩ | ⟨ch, rfl, rfl, rfl⟩
  · rcases a10 with ⟨c1, rfl⟩ | ⟨D, x, p, c1, rfl, ho⟩ | ⟨T, x, p, c1, _⟩
    · obtain rfl : er = .nilIface := by simpa using c1
      have c2 := (a9.one b2 (by omega)).cell
      clear c1 b1 b2 a9 a4
      go_wp2_with fail
      refine (ccmp_int n 0 w4).mono ?_
      rintro e w5 ⟨rfl, rfl⟩
      clear c2
      go_wp2_with fail
      go_ret2
      exact ⟨w1, _, w2, HAT.out.s1, H3.out, HAT.out.s2, HAT.out.le, HAT.out.le2, HAT.out.s4, Or.inl ⟨n, rfl, rfl⟩⟩
    · obtain rfl : er = .iface D x := by simpa using c1
      have HO := Lib.hid ho
      clear ho c1 b1 b2 a9 a4
      go_wp2_with fail
      go_ret2
      exact ⟨w1, _, w2, HAT.out.s1, H3.out, HAT.out.s2, HAT.out.le, HAT.out.le2, HAT.out.s4, Or.inr (Or.inl ⟨n, D, x, _, rfl, rfl, HO.out⟩)⟩
    · cases c1
  · rcases a4 with ⟨n', er', _, _, d1, _⟩ | ⟨T, z, hT, c2⟩
    · cases d1
    cases c2
    rcases a10 with ⟨c1, rfl⟩ | ⟨D, x, p, c1, rfl, ho⟩ | ⟨T', x, p, c1, rfl, ho⟩
    · cases c1
    · cases c1
    · cases c1
      have HO := Lib.hid ho
      clear ho a9
      go_wp2_with fail
      go_ret2
      exact ⟨w1, _, w3, HAT.out.s1, H3.out, HAT.out.s2, HAT.out.le, HAT.out.le2, HAT.out.s4, Or.inr (Or.inr ⟨T, z, _, rfl, rfl, HO.out⟩)⟩

end Go.Proofs.YtcbapmkipcffgaaDoor
