/-
  rialtoplay's comparators: what a call of one does; the makers of both. Conditions: few values, short texts, small counts. An append of one element as a step of a region that draws its order: where the row then lies. Conditions: none.
-/
import Derived.Test.YtgfmemggfbgjeaaGreatDoorM28
import Derived.Test.YtgfmemggfbgjeaaGreatDoorM33
import Derived.Test.YtgfmemggfbgjeaaGreatDoorM1
import Derived.Deep.RegionLaw
namespace Go.Proofs.YtgfmemggfbgjeaaGreatDoor
open Go.RowKit Go.Extern.Stop Go.Stop Go.Extern Go.Lib
set_option maxRecDepth 1000000

/-- What a comparator ends with. -/
def CmpEnd (n : Int) (A B : List V) (w : World) (mp : Value) (c a h s : Int) (e : Ending) (w' : World) : Prop :=
  (¬ Strikes mp c a ∧ e = .returned (.tuple #[.int .i64 (7 * cmpR n A B), .nilIface]) ∧ MAt w' mp (IntKind.i64.wrap (c + 1)) a h s) ∨
  (Strikes mp c a ∧ ∃ p, w.heap.size ≤ p ∧ e = .returned (.tuple #[.int .i64 0, markI p]) ∧ MAt w' mp (IntKind.i64.wrap (c + 1)) a h (IntKind.i64.wrap (s + 1)) ∧ w'.heap[p]? = some (markObj (1000 + a)))

theorem ReadV.kept {w w' : World} {v : Value} {L : List V} {F : Nat → Prop} (h : ReadV w v L) (hs : Same F w w') (hF : ∀ k, v.ownBlock = some k → ¬ F k) : ReadV w' v L := by
  obtain ⟨ao, cap, rfl, hc⟩ := h
  refine ⟨ao, cap, rfl, fun j x hj => ?_⟩
  obtain ⟨b, off, rfl, hb, e0, e1, e2, e3⟩ := hc j x hj
  have hblk := hs.block b hb (hF b rfl)
  exact ⟨b, off, rfl, Nat.lt_of_lt_of_le hb hs.size, (World.cell?_of_block (a := ⟨b, _, none⟩) hblk).trans e0, (World.cell?_of_block (a := ⟨b, _, none⟩) hblk).trans e1, (World.cell?_of_block (a := ⟨b, _, none⟩) hblk).trans e2, (World.cell?_of_block (a := ⟨b, _, none⟩) hblk).trans e3⟩

theorem CapOk.own {w : World} {B n : Nat} {v : Value} {xs : List Value} (h : w.ownsRow B 39 4 v n xs) : CapOk v := by
  intro ao m c e
  subst e
  rcases h.2 with ⟨e, _⟩ | ⟨g, cap, cur, e, _, _, hnc, hcm, _⟩
  · cases e
    exact ⟨Nat.le_refl _, Nat.zero_le _⟩
  · cases e
    exact ⟨hnc, hcm⟩

set_option maxHeartbeats 8000000 in
theorem cmpr_any {w : World} {x y mp : Value} {A B : List V} {n c a h s : Int} {bm bn : Nat} (hx : ReadV w x A) (hy : ReadV w y B) (cx : CapOk x) (cy : CapOk y) (mx : ∀ k, x.ownBlock = some k → ¬ Blk mp k) (my : ∀ k, y.ownBlock = some k → ¬ Blk mp k) (oka : ∀ z ∈ A, z.ok) (okb : ∀ z ∈ B, z.ok) (hsa : ∀ z ∈ A, z.s.size ≤ 200) (hsb : ∀ z ∈ B, z.s.size ≤ 200)
    (hna : A.length ≤ 1000) (hnb : B.length ≤ 1000)
    (hbm : One w bm mp 49) (hbn : One w bn (.int .i64 n) 3) (hm : MAt w mp c a h s) (hsm : MSmall a) :
    Calls Tryz.prog 55 #[x, y, .pointer (some ⟨bm, 0, none⟩), .pointer (some ⟨bn, 0, none⟩)] w fun e w' => Same (Blk mp) w w' ∧ CmpEnd n A B w mp c a h s e w' := by
  have c0 := hbm.cell
  have hrange := cmpR_range n A B
  obtain ⟨xo, xc, hxe⟩ := readV_len hx
  obtain ⟨yo, yc, hye⟩ := readV_len hy
  have HT := Lib.hid (tick_mp hm hsm)
  have HC := Lib.hid (fun w' (hs : Same (Blk mp) w w') => ref7cmp_any n (ReadV.kept hx hs mx) (ReadV.kept hy hs my) oka okb hsa hsb hna hnb cx cy)
  have HBN := Lib.hid hbn; have HM := Lib.hid hm
  subst hxe; subst hye
  clear hx hy oka okb hsa hsb hbm hbn hm
  go_enter Tryz.func55, Tryz.ntmps55
  go_wp2_with fail
  refine HT.out.mono ?_
  rintro e w1 ⟨hs1, hend⟩
  clear c0
  rcases hend with ⟨hst, rfl, hm1⟩ | ⟨hst, p, hp, rfl, hm1, hpo⟩
  · have cn := (hs1.one HBN.out (HM.out.ne_one HBN.out)).cell
    have HC1 := Lib.hid (HC.out w1 hs1)
    have HS1 := Lib.hid hs1; have HM1 := Lib.hid hm1; have HST := Lib.hid hst
    clear hs1 hm1 hst
    go_wp2_with fail
    refine HC1.out.mono ?_
    rintro e w2 ⟨rfl, hs2⟩
    have HS2 := Lib.hid (HS1.out.trans hs2 (fun _ _ h => h.elim)); have HM2 := Lib.hid (HM1.out.same hs2 (fun _ _ => id))
    obtain ⟨r, hr⟩ : ∃ r, r = cmpR n A B := ⟨_, rfl⟩
    rw [← hr] at hrange ⊢
    have hw7 : IntKind.i64.wrap (7 * r) = 7 * r := IntWalk.i64_in _ (by omega)
    have HR := Lib.hid hr
    clear hs2 cn hr
    go_wp2_with fail
    go_ret2
    exact ⟨HS2.out, Or.inl ⟨HST.out, by rw [← HR.out]; rfl, HM2.out⟩⟩
  · have HS1 := Lib.hid hs1; have HM1 := Lib.hid hm1; have HST := Lib.hid hst; have HPO := Lib.hid hpo; have HP := Lib.hid hp
    clear hs1 hm1 hst hpo hp
    go_wp2_with fail
    go_ret2
    exact ⟨HS1.out, Or.inr ⟨HST.out, p, HP.out, rfl, HM1.out, HPO.out⟩⟩

/-- The extractor, the comparator with number n, its meter in block bm, its number in block bn. -/
abbrev exF (bm bn : Nat) : Value := .func (.func 52) #[] #[.pointer (some ⟨bm, 0, none⟩), .pointer (some ⟨bn, 0, none⟩)]
abbrev coF (bm bn : Nat) : Value := .func (.func 55) #[] #[.pointer (some ⟨bm, 0, none⟩), .pointer (some ⟨bn, 0, none⟩)]

theorem extr_enter (args : Array Value) (w : World) : (callFunc 52 args).run Tryz.prog w = .ok (.enter 52 args) w := by kernel_rfl
theorem cmpr_enter (args : Array Value) (w : World) : (callFunc 55 args).run Tryz.prog w = .ok (.enter 55 args) w := by kernel_rfl

abbrev twoBox (w : World) (n : Int) (mp : Value) : World := (w.alloc (.cells #[.int .i64 n] 3)).alloc (.cells #[mp] 49)

theorem mkex_any (n : Int) (mp : Value) (hp : mp = .pointer none ∨ ∃ m, mp = .pointer (some ⟨m, 0, none⟩)) (w : World) : Calls Tryz.prog 32 #[.int .i64 n, mp] w fun e w' => e = .returned (exF (w.heap.size + 1) w.heap.size) ∧ w' = twoBox w n mp := by
  have hmf : ∀ (fn : Fn) (first cap : Array Value) (w : World), (Instr.makeFunc fn first cap).run Tryz.prog w = .ok (.func fn first cap) w := fun _ _ _ _ => rfl
  rcases hp with rfl | ⟨m, rfl⟩
  · go_enter Tryz.func32, Tryz.ntmps32
    go_wp2_with fail
    go_ret
    exact ⟨rfl, rfl⟩
  · go_enter Tryz.func32, Tryz.ntmps32
    go_wp2_with fail
    go_ret
    exact ⟨rfl, rfl⟩

theorem mkco_any (n : Int) (mp : Value) (hp : mp = .pointer none ∨ ∃ m, mp = .pointer (some ⟨m, 0, none⟩)) (w : World) : Calls Tryz.prog 33 #[.int .i64 n, mp] w fun e w' => e = .returned (coF (w.heap.size + 1) w.heap.size) ∧ w' = twoBox w n mp := by
  have hmf : ∀ (fn : Fn) (first cap : Array Value) (w : World), (Instr.makeFunc fn first cap).run Tryz.prog w = .ok (.func fn first cap) w := fun _ _ _ _ => rfl
  rcases hp with rfl | ⟨m, rfl⟩
  · go_enter Tryz.func33, Tryz.ntmps33
    go_wp2_with fail
    go_ret
    exact ⟨rfl, rfl⟩
  · go_enter Tryz.func33, Tryz.ntmps33
    go_wp2_with fail
    go_ret
    exact ⟨rfl, rfl⟩

end Go.Proofs.YtgfmemggfbgjeaaGreatDoor

namespace Go.Proofs.YtgfmemggfbgjeaaGreatDoor
open Go.RowKit

theorem step_append_elem {P : Program} {ops : Array Oper} {o : Oper} {a : Act} {K : Act → World → Prop} {Q : Exit → Act → World → Prop} {E : Prop} (w0 : World) (hgd : o.guard = none) (s x : Operand) (t : TypeId)
    (ho : o.op = .call { callee := .builtin .append, args := #[s, x], argTypes := #[t, t] })
    (base : Nat) (e : TypeId) (z : Value) (size bytes : Nat) (ht : P.underlying t = some (.slice e)) (hinfo : (P.info? e).map (fun i => (i.zero, i.size, i.bytes)) = some (some z, size, bytes))
    (hzs : z.cells.size = size) (hsz : 0 < size) (v : Value) (n : Nat) (xs : List Value) (hs : a.eval s = v) (hown : w0.ownsRow base e size v n xs)
    (news : List Value) (c : Nat) (hx : a.eval x = .slice (some ⟨w0.heap.size, 0, none⟩) 1 c) (hl : news.length = size) (h1 : ∀ u ∈ news, u.oneCell' = true)
    (h63 : n + 1 ≤ maxLen) (hbytes : (n + 1) * bytes ≤ 140737488355328) (hbase : base ≤ w0.heap.size)
    (h : ∀ g cap w', w'.ownsRow base e size (.slice (some ⟨g, 0, none⟩) (n + 1) cap) (n + 1) (xs ++ news) → w0.grownBy w' v.ownBlock → (v.ownBlock = some g ∨ w0.heap.size ≤ g) → g < w'.heap.size → w0.heap.size < w'.heap.size →
      K (a.put o.dst (.slice (some ⟨g, 0, none⟩) (n + 1) cap)) w') :
    if Region.wanted o (yielded ops a.tmps) = true then Oper.wp P o a (w0.alloc (.cells news.toArray e)) K Q else E := by
  have hw : Region.wanted o (yielded ops a.tmps) = true := by simp [Region.wanted, hgd]
  rw [if_pos hw]
  have hnews : ∀ j u, news[j]? = some u → (w0.alloc (.cells news.toArray e)).cell? ((⟨w0.heap.size, 0, none⟩ : Addr).add j) = some u := by
    intro j u hj
    have hb : (w0.alloc (.cells news.toArray e)).heap[w0.heap.size]? = some (.cells news.toArray e) := heap_alloc_new _ _
    rw [Addr.add_lit, Nat.zero_add]
    simp only [World.cell?, hb]
    simpa using hj
  have hg0 : w0.grownBy (w0.alloc (.cells news.toArray e)) v.ownBlock := World.grownBy_alloc _ _ _
  have hs0 : (w0.alloc (.cells news.toArray e)).heap.size = w0.heap.size + 1 := by simp
  obtain ⟨g, cap, w', hr, h2, h3, h4⟩ := run_append_where (P := P) (w0.alloc (.cells news.toArray e)) base t o.type e z size bytes ht hinfo hzs hsz v n xs (hown.alloc _) ⟨w0.heap.size, 0, none⟩ 1 c news (by omega) hnews h1 (by omega) h63 hbytes (by omega)
  have hgl := (h2.lt g rfl).2
  have hsz' := h3.size
  unfold Oper.wp execOp
  simp only [ho, resolve, invoke, builtin, Sem.run_bind, Sem.run_pure, Result.andThen_ok, List.map_toArray, List.map_cons, List.map_nil, hs, hx, hr]
  exact h g cap w' h2 (grownBy_trans hg0 h3) (h4.imp_right fun e => by omega) hgl (by omega)

end Go.Proofs.YtgfmemggfbgjeaaGreatDoor
