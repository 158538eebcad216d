/-
  ordidx: At: a copy of an entry. Conditions: few entries. ordidx: an index of numbers, by comparator 2, whose meter never strikes: what Insert, Find, Rank, At answer. Conditions: few entries.
-/
import Derived.Test.YtgfmemggfbgjeaaGreatDoorM38
import Derived.Test.YtgfmemggfbgjeaaGreatDoorM39
namespace Go.Proofs.YtgfmemggfbgjeaaGreatDoor
open Go.RowKit Go.Extern.Stop Go.Stop Go.Extern Go.Lib
set_option maxRecDepth 1000000

theorem copied_ret {a : Act} {w : World} {e : En} {p : Nat} {R : Ending → World → Prop} (hp : a.tmps.getD 2 undef = .pointer (some ⟨p, 0, none⟩)) (hb : w.heap[p]? = some (entObj e))
    (hd : a.defers = []) (hR : R (.returned e.agg) w) : bodyPost Tryz.prog Tryz.f45 R .ret a w :=
  bodyPost_ret (results_cell_row (P := Tryz.prog) rfl a.tmps w p 57 #[.slice e.ao e.n e.cap, .int .i64 e.id] (0, 0) _ hp hb Tryz.underlying57 rfl (by kernel_rfl)) hd hR

/-- A copy of an entry. -/
def CopyOf (w : World) (e : En) (r : Ending) (w' : World) : Prop :=
  ∃ e' : En, r = .returned e'.agg ∧ e'.id = e.id ∧ e'.kv = e.kv ∧ w'.ownsRow w.heap.size 39 4 e'.key e.kv.length (vals e.kv) ∧ Same (fun _ => False) w w'

set_option maxHeartbeats 4000000 in
theorem copied_any {w0 : World} {e : En} (he : ReadV w0 e.key e.kv) (hn : e.kv.length ≤ 1000) :
    Calls Tryz.prog 45 #[e.agg] w0 fun r w' => CopyOf w0 e r w' := by
  obtain ⟨w, hw⟩ : ∃ w, w = (w0.alloc (entObj e)).alloc entNil := ⟨_, rfl⟩
  have hsb : Same (fun _ => False) w0 w := by rw [hw]; exact ((Same.refl _ w0).alloc _).alloc _
  have heb : w.heap[w0.heap.size]? = some (entObj e) := by rw [hw]; exact ((Same.refl (fun _ => False) _).alloc _).obj (heap_alloc_new _ _) id
  have hrb : w.heap[w0.heap.size + 1]? = some entNil := by
    rw [hw]
    have := heap_alloc_new (w0.alloc (entObj e)) entNil
    simpa using this
  obtain ⟨e0, e1, _, _⟩ := ent_cells heb
  obtain ⟨r0, r1, rf0, rf1⟩ := ent_cells hrb
  have hel := lt_of_block heb
  have hrl := lt_of_block hrb
  have hdr : Same (fun _ => False) w w.drew := (Same.refl (fun _ => False) w).drew
  have HC := Lib.hid (clone_any (w := w.drew) (he.kept (hsb.trans hdr (fun _ _ h => h)) (fun _ _ => id)) hn)
  have HN := Lib.hid (fun (W : World) (h1 : Same (fun _ => False) w.drew W) => And.intro ((hdr.trans h1 (fun _ _ h => h)).obj heb id) ((hdr.trans h1 (fun _ _ h => h)).obj hrb id))
  have HW := Lib.hid hw; have HSB := Lib.hid (hsb.trans hdr (fun _ _ h => h)); have HSZ := Lib.hid hsb.size
  clear he hw hsb heb hrb hdr
  go_enter Tryz.func45, Tryz.ntmps45
  go_upto_region 1 with fail
  rw [← HW.out]
  go_region_with (first | (go_at_call 36; refine HC.out.mono ?_; rintro r w2 ⟨u, rfl, ho, hs2⟩; obtain ⟨uo, uc, rfl⟩ := readV_len (ReadV.own ho); obtain ⟨g1, g2⟩ := HN.out w2 hs2; obtain ⟨q0, q1, _, _⟩ := ent_cells g1; obtain ⟨s0, s1, sf0, sf1⟩ := ent_cells g2; have gl1 := lt_of_block g1; have gl2 := lt_of_block g2; have HO := Lib.hid ho; have HS2 := Lib.hid hs2; have HG2 := Lib.hid g2; clear ho hs2 g1 g2))
  all_goals go_wp2_with fail
  all_goals (
    have hset := set2_obj HG2.out (⟨uo, e.kv.length, uc, e.id, e.kv⟩ : En)
    have hss : Same (fun k => k = w0.heap.size + 1) w2 (set2 w2 (w0.heap.size + 1) (⟨uo, e.kv.length, uc, e.id, e.kv⟩ : En)) := set2_same (F := fun k => k = w0.heap.size + 1) (Same.refl _ w2) (fun _ => rfl) _
    refine copied_ret (p := w0.heap.size + 1) (e := (⟨uo, e.kv.length, uc, e.id, e.kv⟩ : En)) rfl hset rfl ⟨⟨uo, e.kv.length, uc, e.id, e.kv⟩, rfl, rfl, rfl, own_base2 (hss.row HO.out (fun k hk hz => ?_)) (by have := HSZ.out; exact this), (HSB.out.trans HS2.out (fun _ _ h => h)).trans hss (fun i hi hz => by omega)⟩
    have := (HO.out.lt k hk).1
    have : w.drew.heap.size = w.heap.size := rfl
    omega)

theorem iat_ret {a : Act} {w : World} {e : En} {p : Nat} {v : Value} {R : Ending → World → Prop} (hp : a.tmps.getD 4 undef = .pointer (some ⟨p, 0, none⟩)) (hb : w.heap[p]? = some (entObj e)) (h5 : a.tmps.getD 5 undef = v)
    (hd : a.defers = []) (hR : R (.returned (.tuple #[e.agg, v])) w) : bodyPost Tryz.prog Tryz.f18 R .ret a w := by
  obtain ⟨e0, e1, _⟩ := ent_cells hb
  refine bodyPost_ret ?_ hd hR
  rw [results_cell_tmp rfl, hp, h5]
  simp [go_sem, e0, e1]

set_option maxHeartbeats 4000000 in
theorem iat_any {w0 : World} {P : Nat → Prop} {x t bm bn i : Nat} {uq : Bool} {mp : Value} {L : List En} {n a c : Int} (hO0 : OxAt w0 P x t bm bn uq mp n a L c) (hL : L.length ≤ 80000) (hi : i < L.length) :
    Calls Tryz.prog 18 #[.pointer (some ⟨x, 0, none⟩), .int .i64 i] w0 fun r w' => ∃ e' : En, r = .returned (.tuple #[e'.agg, .bool true]) ∧ e'.id = L[i].id ∧ Same (fun _ => False) w0 w' := by
  obtain ⟨w, hw⟩ : ∃ w, w = w0.alloc entNil := ⟨_, rfl⟩
  have hsb : Same (fun _ => False) w0 w := by rw [hw]; exact (Same.refl _ w0).alloc _
  have hrb : w.heap[w0.heap.size]? = some entNil := by rw [hw]; exact heap_alloc_new _ _
  have hT := hO0.tree.keep hsb (fun _ h => h.elim)
  have hidx := hsb.obj hO0.idx id
  obtain ⟨i0, i1, i2, il⟩ := idx_cells hidx
  have HAT := Lib.hid (tree_at hT (by omega) hi)
  have HK := Lib.hid (hO0.keys L[i] (List.getElem_mem hi))
  generalize L[i] = y at *
  have HW := Lib.hid hw; have HSB := Lib.hid hsb; have HRB := Lib.hid hrb
  clear hO0 hw hsb hrb hT hidx hi
  go_enter Tryz.func18, Tryz.ntmps18
  go_upto_region 1 with fail
  rw [← HW.out]
  go_wp2_with fail
  refine HAT.out.mono ?_
  rintro r w2 ⟨rfl, hs2⟩
  obtain ⟨w3, hw3⟩ : ∃ w3, w3 = w2.alloc (entObj y) := ⟨_, rfl⟩
  have hs3 : Same (fun _ => False) w w3 := by rw [hw3]; exact hs2.alloc _
  have hs03 := HSB.out.trans hs3 (fun _ _ h => h)
  have hyb : w3.heap[w2.heap.size]? = some (entObj y) := by rw [hw3]; exact heap_alloc_new _ _
  obtain ⟨y0, y1, _, _⟩ := ent_cells hyb
  have hyl := lt_of_block hyb
  have HCP := Lib.hid (copied_any (w0 := w3) (e := y) (HK.out.rd.kept hs03 (fun _ _ => id)) HK.out.few)
  have HR3 := Lib.hid (hs3.obj HRB.out id); have HS3 := Lib.hid hs03; have HW3 := Lib.hid hw3
  clear hs2 hw3 hs3 hs03 hyb
  go_upto_region 2 with fail
  rw [← HW3.out]
  go_wp2_with fail
  refine HCP.out.mono ?_
  rintro r w4 ⟨e', rfl, hid', _, _, hs4⟩
  have hr4 := hs4.obj HR3.out id
  obtain ⟨r0, r1, rf0, rf1⟩ := ent_cells hr4
  have hrl := lt_of_block hr4
  have HR4 := Lib.hid hr4; have HS4 := Lib.hid (HS3.out.trans hs4 (fun _ _ h => h))
  have HID := Lib.hid hid'
  clear hs4 hr4 hid'
  go_wp2_with fail
  exact iat_ret (p := w0.heap.size) (e := e') rfl (set2_obj HR4.out e') rfl rfl ⟨e', rfl, HID.out, set2_same HS4.out (fun h => absurd h (Nat.lt_irrefl _)) e'⟩

end Go.Proofs.YtgfmemggfbgjeaaGreatDoor

namespace Go.Proofs.YtgfmemggfbgjeaaGreatDoor
open Go.RowKit Go.Extern.Stop Go.Stop Go.Extern Go.Lib
set_option maxRecDepth 1000000

abbrev mtp (M : Nat) : Value := .pointer (some ⟨M, 0, none⟩)

theorem blk_mtp {M k : Nat} (h : Blk (mtp M) k) : k = M := by simpa [Blk] using h.symm

/-- An index in memory behind a base, and its meter ahead of it. -/
structure OrI (w0 : World) (PB M x t bm bn : Nat) (uq : Bool) (n h s : Int) (L : List En) (k : Nat) (w : World) : Prop where
  same : Same (fun i => w0.heap.size ≤ i) w0 w
  lo : w0.heap.size ≤ M
  mid : M < PB
  ox : ∃ c, (0 ≤ c ∧ c ≤ 100 * (k : Int)) ∧ OxAt w (fun i => PB ≤ i) x t bm bn uq (mtp M) n 0 L c
  mm : ∃ cc, MAt w (mtp M) cc 0 h s

theorem OrI.kept {w0 w w' : World} {PB M x t bm bn k : Nat} {uq : Bool} {n h s : Int} {L : List En} (hI : OrI w0 PB M x t bm bn uq n h s L k w) (hs : Same (fun _ => False) w w') : OrI w0 PB M x t bm bn uq n h s L k w' := by
  obtain ⟨c, hc, ho⟩ := hI.ox
  obtain ⟨cc, hm⟩ := hI.mm
  exact ⟨hI.same.trans hs (fun _ _ h => h.elim), hI.lo, hI.mid, ⟨c, hc, ho.kept hm (hs.weaken (fun _ _ h => h.elim))⟩, cc, hm.same hs (fun _ _ => id)⟩

theorem OrI.asked {w0 w w' : World} {PB M x t bm bn k : Nat} {uq : Bool} {n h s c' : Int} {L : List En} (hI : OrI w0 PB M x t bm bn uq n h s L k w) (hs : Same (Blk (mtp M)) w w') (hm' : MAt w' (mtp M) c' 0 h s) : OrI w0 PB M x t bm bn uq n h s L k w' := by
  obtain ⟨c, hc, ho⟩ := hI.ox
  obtain ⟨cc, hm⟩ := hI.mm
  have := hI.lo
  exact ⟨hI.same.trans hs (fun i _ h => by have := blk_mtp h; omega), hI.lo, hI.mid, ⟨c, hc, ho.kept hm hs⟩, c', hm'⟩

theorem few_low {n : Nat} (h : n ≤ 1000) : 3 * (Nat.log2 (n + 1) / 2) + 3 ≤ 100 := by
  have : Nat.log2 (n + 1) < 20 := (Nat.log2_lt (by omega)).2 (by omega)
  omega

theorem nums_insert {w0 w : World} {PB M x t bm bn k : Nat} {h s v rid : Int} {ls : List Int} {L : List En} {kv : Value} (hI : OrI w0 PB M x t bm bn false 2 h s L k w) (hN : Nums ls L) (hK : KeyOk w (mtp M) kv [numV v]) (hr : rid = ls.length + 1) (hl : ls.length ≤ 1000) (hk : k ≤ 10000) :
    Calls Tryz.prog 12 #[.pointer (some ⟨x, 0, none⟩), kv, .int .i64 rid] w fun r w' => r = .returned (.tuple #[.int .i64 (ls.countP (fun a => decide (a ≤ v)) : Nat), .nilIface]) ∧ ∃ L', Nums (ls ++ [v]) L' ∧ OrI w0 PB M x t bm bn false 2 h s L' (k + 1) w' := by
  obtain ⟨c, hc, ho⟩ := hI.ox
  obtain ⟨cc, hm⟩ := hI.mm
  have hlen := hN.length
  have htP : PB ≤ t := ho.tree.1
  obtain ⟨rr, hrr⟩ := ho.head
  have htl := lt_of_block hrr
  have hlo := hI.lo; have hmid := hI.mid
  refine (insert_plain (rid := rid) ho hm hK (fun i hi => by show PB ≤ i; omega) (by omega) (by omega) (hN.rank_mono v rid)).mono ?_
  rintro r w' ⟨c', hm', hs, hend⟩
  have hsame := hI.same.trans hs (fun i _ h => h.elim (fun h => by have := blk_mtp h; omega) (fun h => by omega))
  rcases hend with ⟨y, hy, hy1, _⟩ | ⟨i, e, d, hi, f1, f2, he, hid, hd, rfl, ho'⟩
  · have := hN.fresh hy
    omega
  · have e1 := hN.place hr hi f1 f2
    have hfl := few_low (n := L.length) (by omega)
    exact ⟨by rw [← e1], _, hN.insert hr he hid f1 f2, hsame, hlo, hmid, ⟨_, by omega, ho'⟩, c', hm'⟩

theorem nums_find {w0 w : World} {PB M x t bm bn k : Nat} {uq : Bool} {h s v : Int} {ls : List Int} {L : List En} {kv : Value} (hI : OrI w0 PB M x t bm bn uq 2 h s L k w) (hN : Nums ls L) (hK : KeyOk w (mtp M) kv [numV v]) (hl : ls.length ≤ 1000) :
    Calls Tryz.prog 16 #[.pointer (some ⟨x, 0, none⟩), kv] w fun r w' => r = .returned (.tuple #[.int .i64 (ls.countP (fun a => decide (a < v)) : Nat), .int .i64 ((ls.countP (fun a => decide (a < v)) + ls.countP (fun a => decide (a = v)) : Nat)), .nilIface]) ∧ OrI w0 PB M x t bm bn uq 2 h s L k w' := by
  obtain ⟨c, hc, ho⟩ := hI.ox
  obtain ⟨cc, hm⟩ := hI.mm
  have hlen := hN.length
  refine (find_calm ho hm hK (by omega) (hN.cmp_mono v).1 (hN.cmp_mono v).2).mono ?_
  rintro r w' ⟨i, j, c', rfl, hi, hj, f1, f2, f3, f4, hs, hm'⟩
  exact ⟨by rw [← hN.to_ hj f3 f4, ← hN.from_ hi f1 f2], hI.asked hs hm'⟩

theorem nums_rank {w0 w : World} {PB M x t bm bn k : Nat} {uq : Bool} {h s v rid : Int} {ls : List Int} {L : List En} {kv : Value} {j : Nat} (hI : OrI w0 PB M x t bm bn uq 2 h s L k w) (hN : Nums ls L) (hK : KeyOk w (mtp M) kv [numV v]) (hl : ls.length ≤ 1000) (hj : j < ls.length) (hv : ls[j] = v) (hr : rid = j + 1) :
    Calls Tryz.prog 17 #[.pointer (some ⟨x, 0, none⟩), kv, .int .i64 rid] w fun r w' => r = .returned (.tuple #[.int .i64 ((ls.countP (fun a => decide (a < v)) + (ls.take j).countP (fun a => decide (a = v)) : Nat)), .bool true, .nilIface]) ∧ OrI w0 PB M x t bm bn uq 2 h s L k w' ∧ ∃ y, L[ls.countP (fun a => decide (a < v)) + (ls.take j).countP (fun a => decide (a = v))]? = some y ∧ y.id = rid := by
  obtain ⟨c, hc, ho⟩ := hI.ox
  obtain ⟨cc, hm⟩ := hI.mm
  have hlen := hN.length
  refine (rank_calm ho hm hK (by omega) (hN.rank_mono v rid)).mono ?_
  rintro r w' ⟨i, b, c', rfl, hi, f1, f2, hb, hs, hm'⟩
  obtain ⟨e1, hy⟩ := hN.rank hj hv hr hi f1 f2
  have hbt := hb.2 hy
  subst hbt
  obtain ⟨y, y1, y2, _⟩ := hy
  exact ⟨by rw [← e1], hI.asked hs hm', y, by rw [← e1]; exact y1, y2⟩

theorem nums_at {w0 w : World} {PB M x t bm bn k i : Nat} {uq : Bool} {n h s : Int} {L : List En} {y : En} (hI : OrI w0 PB M x t bm bn uq n h s L k w) (hL : L.length ≤ 1000) (hy : L[i]? = some y) :
    Calls Tryz.prog 18 #[.pointer (some ⟨x, 0, none⟩), .int .i64 i] w fun r w' => (∃ e' : En, r = .returned (.tuple #[e'.agg, .bool true]) ∧ e'.id = y.id) ∧ OrI w0 PB M x t bm bn uq n h s L k w' := by
  obtain ⟨c, hc, ho⟩ := hI.ox
  obtain ⟨hi, hy'⟩ := List.getElem?_eq_some_iff.1 hy
  refine (iat_any ho (by omega) hi).mono ?_
  rintro r w' ⟨e', rfl, hid, hs⟩
  exact ⟨⟨e', rfl, by rw [hid, hy']⟩, hI.kept hs⟩

end Go.Proofs.YtgfmemggfbgjeaaGreatDoor
