/-
  rialtoplay's comparators: what a call of one does; the makers of both. Conditions: few values, short texts, small counts.
-/
import Derived.Test.YtcbapmkipcffgaaDoorPlayE
import Derived.Test.YtcbapmkipcffgaaDoorRef7C
namespace Go.Proofs.YtcbapmkipcffgaaDoor
open Go.RowKit Go.Extern.Stop Go.Stop Go.Extern Go.Lib
set_option maxRecDepth 1000000

/-- What a comparator ends with. -/
def CmpEnd (n : Int) (A B : List V) (w : World) (mp : Value) (c a h s : Int) (e : Ending) (w' : World) : Prop :=
  (¬ Strikes mp c a ∧ e = .returned (.tuple #[.int .i64 (7 * cmpR n A B), .nilIface]) ∧ MAt w' mp (c + 1) a h s) ∨
  (Strikes mp c a ∧ ∃ p, w.heap.size ≤ p ∧ e = .returned (.tuple #[.int .i64 0, markI p]) ∧ MAt w' mp (c + 1) a h (s + 1) ∧ w'.heap[p]? = some (markObj (1000 + a)))

theorem CapOk.own {w : World} {B n : Nat} {v : Value} {xs : List Value} (h : w.ownsRow B 38 4 v n xs) : CapOk v := by
  intro ao m c e
  subst e
  rcases h.2 with ⟨e, _⟩ | ⟨g, cap, cur, e, _, _, hnc, hcm, _⟩
  · cases e
    exact ⟨Nat.le_refl _, Nat.zero_le _⟩
  · cases e
    exact ⟨hnc, hcm⟩

set_option maxHeartbeats 8000000 in
theorem cmpr_any {w : World} {x y mp : Value} {A B : List V} {n c a h s : Int} {B1 B2 bm bn : Nat} (hx : w.ownsRow B1 38 4 x A.length (vals A)) (hy : w.ownsRow B2 38 4 y B.length (vals B)) (oka : ∀ z ∈ A, z.ok) (okb : ∀ z ∈ B, z.ok) (hsa : ∀ z ∈ A, z.s.size ≤ 200) (hsb : ∀ z ∈ B, z.s.size ≤ 200)
    (hna : A.length ≤ 1000) (hnb : B.length ≤ 1000)
    (hbm : One w bm mp 70) (hbn : One w bn (.int .i64 n) 3) (hm : MAt w mp c a h s) (hsm : MSmall c a s) :
    Calls Tryd.prog 89 #[x, y, .pointer (some ⟨bm, 0, none⟩), .pointer (some ⟨bn, 0, none⟩)] w fun e w' => Same (Blk mp) w w' ∧ CmpEnd n A B w mp c a h s e w' := by
  have c0 := hbm.cell
  have hrange := cmpR_range n A B
  obtain ⟨xo, xc, hxe⟩ := readV_len (ReadV.own hx)
  obtain ⟨yo, yc, hye⟩ := readV_len (ReadV.own hy)
  have HT := Lib.hid (tick_mp hm hsm)
  have HC := Lib.hid (fun w' (hs : Same (Blk mp) w w') => ref7cmp_any n (ReadV.own (hs.row hx (fun k hk hB => hm.ne_own hx hB hk))) (ReadV.own (hs.row hy (fun k hk hB => hm.ne_own hy hB hk))) oka okb hsa hsb hna hnb (CapOk.own hx) (CapOk.own hy))
  have HBN := Lib.hid hbn; have HM := Lib.hid hm
  subst hxe; subst hye
  clear hx hy oka okb hsa hsb hbm hbn hm
  go_enter Tryd.func89, Tryd.ntmps89
  go_wp2_with fail
  refine HT.out.mono ?_
  rintro e w1 ⟨hs1, hend⟩
  clear c0
  rcases hend with ⟨hst, rfl, hm1⟩ | ⟨hst, p, hp, rfl, hm1, hpo⟩
  · have cn := (hs1.one HBN.out (HM.out.ne_one HBN.out)).cell
    have HC1 := Lib.hid (HC.out w1 hs1)
    have HS1 := Lib.hid hs1; have HM1 := Lib.hid hm1; have HST := Lib.hid hst
    clear hs1 hm1 hst
    go_wp2_with fail
    refine HC1.out.mono ?_
    rintro e w2 ⟨rfl, hs2⟩
    have HS2 := Lib.hid (HS1.out.trans hs2 (fun _ _ h => h.elim)); have HM2 := Lib.hid (HM1.out.same hs2 (fun _ _ => id))
    obtain ⟨r, hr⟩ : ∃ r, r = cmpR n A B := ⟨_, rfl⟩
    rw [← hr] at hrange ⊢
    have hw7 : IntKind.i64.wrap (7 * r) = 7 * r := IntWalk.i64_in _ (by omega)
    have HR := Lib.hid hr
    clear hs2 cn hr
    go_wp2_with fail
    go_ret2
    exact ⟨HS2.out, Or.inl ⟨HST.out, by rw [← HR.out]; rfl, HM2.out⟩⟩
  · have HS1 := Lib.hid hs1; have HM1 := Lib.hid hm1; have HST := Lib.hid hst; have HPO := Lib.hid hpo; have HP := Lib.hid hp
    clear hs1 hm1 hst hpo hp
    go_wp2_with fail
    go_ret2
    exact ⟨HS1.out, Or.inr ⟨HST.out, p, HP.out, rfl, HM1.out, HPO.out⟩⟩

/-- The extractor, the comparator with number n, its meter in block bm, its number in block bn. -/
abbrev exF (bm bn : Nat) : Value := .func (.func 88) #[] #[.pointer (some ⟨bm, 0, none⟩), .pointer (some ⟨bn, 0, none⟩)]
abbrev coF (bm bn : Nat) : Value := .func (.func 89) #[] #[.pointer (some ⟨bm, 0, none⟩), .pointer (some ⟨bn, 0, none⟩)]

theorem extr_enter (args : Array Value) (w : World) : (callFunc 88 args).run Tryd.prog w = .ok (.enter 88 args) w := by kernel_rfl
theorem cmpr_enter (args : Array Value) (w : World) : (callFunc 89 args).run Tryd.prog w = .ok (.enter 89 args) w := by kernel_rfl

abbrev twoBox (w : World) (n : Int) (mp : Value) : World := (w.alloc (.cells #[.int .i64 n] 3)).alloc (.cells #[mp] 70)

theorem mkex_any (n : Int) (mp : Value) (hp : mp = .pointer none ∨ ∃ m, mp = .pointer (some ⟨m, 0, none⟩)) (w : World) : Calls Tryd.prog 67 #[.int .i64 n, mp] w fun e w' => e = .returned (exF (w.heap.size + 1) w.heap.size) ∧ w' = twoBox w n mp := by
  have hmf : ∀ (fn : Fn) (first cap : Array Value) (w : World), (Instr.makeFunc fn first cap).run Tryd.prog w = .ok (.func fn first cap) w := fun _ _ _ _ => rfl
  rcases hp with rfl | ⟨m, rfl⟩
  · go_enter Tryd.func67, Tryd.ntmps67
    go_wp2_with fail
    go_ret
    exact ⟨rfl, rfl⟩
  · go_enter Tryd.func67, Tryd.ntmps67
    go_wp2_with fail
    go_ret
    exact ⟨rfl, rfl⟩

theorem mkco_any (n : Int) (mp : Value) (hp : mp = .pointer none ∨ ∃ m, mp = .pointer (some ⟨m, 0, none⟩)) (w : World) : Calls Tryd.prog 68 #[.int .i64 n, mp] w fun e w' => e = .returned (coF (w.heap.size + 1) w.heap.size) ∧ w' = twoBox w n mp := by
  have hmf : ∀ (fn : Fn) (first cap : Array Value) (w : World), (Instr.makeFunc fn first cap).run Tryd.prog w = .ok (.func fn first cap) w := fun _ _ _ _ => rfl
  rcases hp with rfl | ⟨m, rfl⟩
  · go_enter Tryd.func68, Tryd.ntmps68
    go_wp2_with fail
    go_ret
    exact ⟨rfl, rfl⟩
  · go_enter Tryd.func68, Tryd.ntmps68
    go_wp2_with fail
    go_ret
    exact ⟨rfl, rfl⟩

end Go.Proofs.YtcbapmkipcffgaaDoor
