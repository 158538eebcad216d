/-
  KeyFields: the walk: it answers true and turns nothing that was there. Condition: the variable that errors.As reads holds the type of error.
-/
import Derived.Test.YtcbapmkipcffgaaDoorKeyKnown
import Derived.Test.YtcbapmkipcffgaaDoorKeyOpen
import Derived.Test.YtcbapmkipcffgaaDoorHookValuesW
namespace Go.Proofs.YtcbapmkipcffgaaDoor
open Go.RowKit Go.Extern.Stop Go.Stop Go.Extern Go.Lib
set_option maxRecDepth 1000000

theorem part_info : (Tryd.prog.info? 81).map (fun i => (i.zero, i.size, i.bytes)) = some (some (.agg #[.int .i64 0, .int .i64 0]), 2, 16) := by kernel_rfl

/-- The parts that name these fields. -/
abbrev fparts (fs : List Nat) : List (Int × Int) := fs.map fun (f : Nat) => ((f : Int), (0 : Int))
abbrev pcells (P : List (Int × Int)) : List Value := P.flatMap fun p => [.int .i64 p.1, .int .i64 p.2]
abbrev fwant (L : List V) (fs : List Nat) : List V := fs.map fun f => L.getD f V.nil

theorem keyOut_fields (L : List V) (m : Nat) (mp : Value) (a : Int) : ∀ (fs : List Nat) (acc : List V) (c : Int), (∀ f ∈ fs, f < L.length) → keyOut L m mp a (fparts fs) acc c = .keys (acc ++ fwant L fs) c
  | [], acc, c, _ => by simp [keyOut]
  | f :: fs, acc, c, h => by
    have hf : f < L.length := h f (List.mem_cons_self)
    have h1 : partOut L m mp a ((f : Int), 0) c = .val (L.getD f V.nil) c := by
      unfold partOut
      rw [if_pos ⟨by simp only; omega, by simp only; omega⟩]
      simp
    show KeyOut.of (partOut L m mp a ((f : Int), 0) c) c (keyOut L m mp a (fparts fs)) acc = _
    rw [h1]
    show keyOut L m mp a (fparts fs) (acc ++ [L.getD f V.nil]) c = _
    rw [keyOut_fields L m mp a fs _ c (fun g hg => h g (List.mem_cons_of_mem _ hg))]
    simp

/-- What stands at a round of KeyFields. -/
structure FldI (W : World) (M : Nat) (L : List V) (fs : List Nat) (wv : Value) (wr : World) : Prop where
  same : Same (fun _ => False) W wr
  hi : W.heap.size ≤ M
  mt : wr.heap[M]? = some (meterObj 0 0 0 0)
  d : ∃ po pc, wr.heap[M + 1]? = some (defObj ⟨#[120]⟩ 1 (.slice po fs.length pc) (-1)) ∧ wr.ownsRow (M + 2) 81 2 (.slice po fs.length pc) fs.length (pcells (fparts fs))
  own : wr.ownsRow (M + 2) 38 4 wv fs.length (vals (fwant L fs))
  fl : ∀ f ∈ fs, f < L.length

theorem FldI.start {W w1 : World} (h : Same (fun _ => False) W w1) (L : List V) : FldI W w1.heap.size L [] (.slice none 0 0) ((w1.alloc (meterObj 0 0 0 0)).alloc (defObj ⟨#[120]⟩ 1 (.slice none 0 0) (-1))) := by
  refine ⟨(h.alloc _).alloc _, h.size, ?_, ⟨none, 0, ?_, World.ownsRow_nil _ _ _ _⟩, World.ownsRow_nil _ _ _ _, fun f hf => by cases hf⟩
  · exact ((Same.refl (fun _ => False) (w1.alloc (meterObj 0 0 0 0))).alloc _).obj (heap_alloc_new w1 _) id
  · have h := heap_alloc_new (w1.alloc (meterObj 0 0 0 0)) (defObj ⟨#[120]⟩ 1 (.slice none 0 0) (-1))
    rwa [show (w1.alloc (meterObj 0 0 0 0)).heap.size = w1.heap.size + 1 by simp] at h

theorem cells_free {w : World} {b : Nat} {cs : Array Value} {t : TypeId} (h : w.heap[b]? = some (.cells cs t (0, 0))) (o : Nat) : w.frozen? ⟨b, o, none⟩ = false := by simp [World.frozen?, h]

theorem own_sep {w : World} {B1 B2 n1 n2 s1 s2 : Nat} {e1 e2 : TypeId} {v1 v2 : Value} {xs1 xs2 : List Value} (h1 : w.ownsRow B1 e1 s1 v1 n1 xs1) (h2 : w.ownsRow B2 e2 s2 v2 n2 xs2) (he : e1 ≠ e2) : ∀ j, v1.ownBlock = some j → v2.ownBlock ≠ some j := by
  intro j hj1 hj2
  rcases h1.2 with ⟨rfl, _⟩ | ⟨g, cap, cur, rfl, _, hh, _⟩
  · cases hj1
  · rcases h2.2 with ⟨rfl, _⟩ | ⟨g2, cap2, cur2, rfl, _, hh2, _⟩
    · cases hj2
    · simp only [Value.ownBlock, Option.some.injEq] at hj1 hj2
      subst hj1
      subst hj2
      have := hh.symm.trans hh2
      simp at this
      exact he this.2

theorem FldI.mid {W wr w2 : World} {M g cap pc f : Nat} {po : Option Addr} {L : List V} {fs : List Nat} {wv : Value} (hI : FldI W M L fs wv wr) (hd : wr.heap[M + 1]? = some (defObj ⟨#[120]⟩ 1 (.slice po fs.length pc) (-1))) (hp : wr.ownsRow (M + 2) 81 2 (.slice po fs.length pc) fs.length (pcells (fparts fs)))
    (ho : w2.ownsRow (M + 2) 81 2 (.slice (some ⟨g, 0, none⟩) (fs.length + 1) cap) (fs.length + 1) (pcells (fparts fs) ++ [.int .i64 f, .int .i64 0])) (hg : wr.grownBy w2 (Value.slice po fs.length pc).ownBlock) :
    Same (fun _ => False) W (w2.setCell ⟨M + 1, 2, none⟩ (.slice (some ⟨g, 0, none⟩) (fs.length + 1) cap)) ∧
    (w2.setCell ⟨M + 1, 2, none⟩ (.slice (some ⟨g, 0, none⟩) (fs.length + 1) cap)).ownsRow (M + 2) 38 4 wv fs.length (vals (fwant L fs)) ∧
    (w2.setCell ⟨M + 1, 2, none⟩ (.slice (some ⟨g, 0, none⟩) (fs.length + 1) cap)).heap[M]? = some (meterObj 0 0 0 0) ∧
    (w2.setCell ⟨M + 1, 2, none⟩ (.slice (some ⟨g, 0, none⟩) (fs.length + 1) cap)).heap[M + 1]? = some (defObj ⟨#[120]⟩ 1 (.slice (some ⟨g, 0, none⟩) (fs.length + 1) cap) (-1)) ∧
    (w2.setCell ⟨M + 1, 2, none⟩ (.slice (some ⟨g, 0, none⟩) (fs.length + 1) cap)).ownsRow (M + 2) 81 2 (.slice (some ⟨g, 0, none⟩) (fs.length + 1) cap) (fs.length + 1) (pcells (fparts fs) ++ [.int .i64 f, .int .i64 0]) ∧ M + 2 ≤ w2.heap.size ∧ w2.heap[M + 1]? = some (defObj ⟨#[120]⟩ 1 (.slice po fs.length pc) (-1)) := by
  have hlt := lt_of_block hd
  have hpb : ∀ j, (Value.slice po fs.length pc).ownBlock = some j → M + 2 ≤ j := fun j hj => (hp.lt j hj).1
  have h12 : Same (fun j => (Value.slice po fs.length pc).ownBlock = some j) wr w2 := (Same.refl (fun j => (Value.slice po fs.length pc).ownBlock = some j) wr).grown hg (fun j hj _ => hj)
  have h23 : Same (fun j => j = M + 1) w2 (w2.setCell ⟨M + 1, 2, none⟩ (.slice (some ⟨g, 0, none⟩) (fs.length + 1) cap)) := (Same.refl (fun j => j = M + 1) w2).setCell (p := ⟨M + 1, 2, none⟩) (fun _ => rfl) _
  have hhi := hI.hi
  have hd2 := h12.obj hd (fun e => by have := hpb _ e; omega)
  refine ⟨(hI.same.trans h12 (fun j hj e => by have := hpb _ e; omega)).trans h23 (fun j hj e => by omega), h23.row (h12.row hI.own (fun j hj e => own_sep hp hI.own (by decide) j e hj)) (fun j hj e => by have := (hI.own.lt j hj).1; omega), h23.obj (h12.obj hI.mt (fun e => by have := hpb _ e; omega)) (by omega), vset_at hd2, h23.row ho (fun j hj e => by have := (ho.lt j hj).1; omega), by have := h12.size; omega, hd2⟩

theorem FldI.next {W w3 w4 : World} {M g cap g2 cap2 f : Nat} {L : List V} {fs : List Nat} {wv : Value} {y : V} (hi : W.heap.size ≤ M) (fl : ∀ f ∈ fs, f < L.length) (hf : f < L.length) (hy : L.getD f V.nil = y)
    (k1 : Same (fun _ => False) W w3) (k2 : w3.ownsRow (M + 2) 38 4 wv fs.length (vals (fwant L fs))) (k3 : w3.heap[M]? = some (meterObj 0 0 0 0)) (k4 : w3.heap[M + 1]? = some (defObj ⟨#[120]⟩ 1 (.slice (some ⟨g, 0, none⟩) (fs.length + 1) cap) (-1)))
    (k5 : w3.ownsRow (M + 2) 81 2 (.slice (some ⟨g, 0, none⟩) (fs.length + 1) cap) (fs.length + 1) (pcells (fparts fs) ++ [.int .i64 f, .int .i64 0]))
    (ho : w4.ownsRow (M + 2) 38 4 (.slice (some ⟨g2, 0, none⟩) (fs.length + 1) cap2) (fs.length + 1) (vals (fwant L fs) ++ y.cells)) (hg : w3.grownBy w4 wv.ownBlock) :
    FldI W M L (fs ++ [f]) (.slice (some ⟨g2, 0, none⟩) (fs.length + 1) cap2) w4 := by
  have hwb : ∀ j, wv.ownBlock = some j → M + 2 ≤ j := fun j hj => (k2.lt j hj).1
  have h34 : Same (fun j => wv.ownBlock = some j) w3 w4 := (Same.refl (fun j => wv.ownBlock = some j) w3).grown hg (fun j hj _ => hj)
  have hlen : (fs ++ [f]).length = fs.length + 1 := by simp
  refine ⟨k1.trans h34 (fun j hj e => by have := hwb j e; omega), hi, h34.obj k3 (fun e => by have := hwb _ e; omega), ⟨_, cap, by rw [hlen]; exact h34.obj k4 (fun e => by have := hwb _ e; omega), ?_⟩, ?_, ?_⟩
  · rw [hlen]
    have h5 := h34.row k5 (fun j hj e => own_sep k5 k2 (by decide) j hj e)
    simpa [pcells, fparts] using h5
  · rw [hlen]
    have h6 : vals (fwant L (fs ++ [f])) = vals (fwant L fs) ++ y.cells := by simp [fwant, vals, ← hy]
    rw [h6]
    exact ho
  · intro x hx
    simp only [List.mem_append, List.mem_singleton] at hx
    rcases hx with hx | rfl
    · exact fl x hx
    · exact hf

theorem pcells_at : ∀ (P : List (Int × Int)) (j : Nat) (p : Int × Int) (k : Nat) (u : Value), P[j]? = some p → [Value.int .i64 p.1, .int .i64 p.2][k]? = some u → (pcells P)[j * 2 + k]? = some u
  | [], j, p, k, u, h, _ => by simp at h
  | q :: P, 0, p, k, u, h, hu => by
    obtain rfl : q = p := by simpa using h
    show ([Value.int .i64 q.1, .int .i64 q.2] ++ pcells P)[0 * 2 + k]? = some u
    have hk := (List.getElem?_eq_some_iff.1 hu).1
    rw [show 0 * 2 + k = k by omega, List.getElem?_append_left hk]
    exact hu
  | q :: P, j + 1, p, k, u, h, hu => by
    have ih := pcells_at P j p k u (by simpa using h) hu
    show ([Value.int .i64 q.1, .int .i64 q.2] ++ pcells P)[(j + 1) * 2 + k]? = _
    have hc : [Value.int .i64 q.1, .int .i64 q.2].length = 2 := rfl
    rw [List.getElem?_append_right (by omega), hc, show (j + 1) * 2 + k - 2 = j * 2 + k by omega]
    exact ih

theorem ReadP.own {w : World} {B : Nat} {v : Value} {P : List (Int × Int)} (h : w.ownsRow B 81 2 v P.length (pcells P)) : ReadP w v P := by
  rcases h.2 with ⟨rfl, h0⟩ | ⟨g, cap, cur, rfl, hbg, hg, hnc, hcm, hcs, htake⟩
  · have : P = [] := List.eq_nil_of_length_eq_zero h0
    subst this
    exact ⟨none, 0, rfl, fun j x hj => by simp at hj⟩
  · refine ⟨some ⟨g, 0, none⟩, cap, rfl, fun j x hj => ?_⟩
    have hcell := fun k u hu => h.cells (g := g) rfl (j * 2 + k) u (pcells_at P j x k u hj hu)
    have e0 := hcell 0 _ rfl
    have e1 := hcell 1 _ rfl
    rw [Addr.add_lit] at e0 e1
    exact ⟨g, 0, rfl, lt_of_block hg, e0, e1⟩

/-- What stands behind key.Of in KeyFields. -/
structure FldO (W wr : World) (M : Nat) (L : List V) (fs : List Nat) (wv kv : Value) (wO : World) : Prop where
  same : Same (fun _ => False) W wO
  key : ReadV wO kv (fwant L fs)
  want : ReadV wO wv (fwant L fs)
  mt : wO.heap[M]? = some (meterObj 0 0 0 0)
  d : ∀ {po pc}, wr.heap[M + 1]? = some (defObj ⟨#[120]⟩ 1 (.slice po fs.length pc) (-1)) → wO.heap[M + 1]? = some (defObj ⟨#[120]⟩ 1 (.slice po fs.length pc) (-1))

theorem fld_of {W wr wH : World} {M pc vc B : Nat} {vo po : Option Addr} {L : List V} {fs : List Nat} {wv hv : Value} (hr : ReadV W (.slice vo L.length vc) L) (hok : ∀ y ∈ L, y.ok) (hf : (fewV L && decide ((L.length : Int) ≤ 8)) = true) (hn : L.length ≤ 8) (hfs : fs.length ≤ 8)
    (hI : FldI W M L fs wv wr) (hp : wr.ownsRow (M + 2) 81 2 (.slice po fs.length pc) fs.length (pcells (fparts fs))) (hT : Same (fun _ => False) wr wH) (hat : HooksAt wH B hv (.pointer (some ⟨M, 0, none⟩))) :
    Calls Tryd.prog 36 #[defV ⟨#[120]⟩ 1 (.slice po fs.length pc) (-1), hv, .slice vo L.length vc] wH fun e wO => ∃ ko kc, e = .returned (.tuple #[.slice ko fs.length kc, .nilIface]) ∧ FldO W wr M L fs wv (.slice ko fs.length kc) wO := by
  have hlenP : (fparts fs).length = fs.length := by simp
  have hlenW : (fwant L fs).length = fs.length := by simp
  have hpH := hT.row hp (fun _ _ => id)
  have hsz : ∀ y ∈ L, y.s.size ≤ 200 := by
    intro y hy
    simp only [Bool.and_eq_true, fewV, List.all_eq_true, decide_eq_true_eq] at hf
    exact hf.1 y hy
  have hb : ∀ k, Blk (.pointer (some ⟨M, 0, none⟩)) k → k = M := fun k hk => by unfold Blk at hk; simp at hk; exact hk.symm
  have hhi := hI.hi
  refine (of_any (name := ⟨#[120]⟩) (kind := 1) (cmp := -1) (parts := .slice po fs.length pc) (L := L) (P := fparts fs) (mp := .pointer (some ⟨M, 0, none⟩)) (c := 0) (a := 0) (h := 0) (s := 0) (m := 5) (Or.inl ⟨rfl, B, hat⟩)
    (fun w' h => hr.keep ((SameW.trans (SameW.of hI.same) hT (fun _ _ => id)).trans h (fun k hk e => by have := hb k e; omega))) (fun w' h => ?_) hok hsz (by omega) (by rw [hlenP]; omega) (Or.inr ⟨M, rfl, hT.obj hI.mt id⟩) ⟨by decide, by decide, by decide, by decide, by decide, by decide⟩ (by decide)).mono ?_
  · have h1 := h.row hpH (fun j hj e => by have := hb j e; have := (hpH.lt j hj).1; omega)
    have h2 : w'.ownsRow (M + 2) 81 2 (.slice po fs.length pc) (fparts fs).length (pcells (fparts fs)) := by rw [hlenP]; exact h1
    exact ReadP.own h2
  · rintro e wO ⟨hs, ho⟩
    rw [keyOut_fields L 5 _ 0 fs [] 0 hI.fl] at ho
    obtain ⟨⟨kv, rfl, hk⟩, hm⟩ := ho
    simp only [List.nil_append] at hk
    have hkr := ReadV.own hk
    obtain ⟨ko, kc, rfl⟩ := readV_len hkr
    rw [hlenW] at hkr ⊢
    have hw := hs.row (hT.row hI.own (fun _ _ => id)) (fun j hj e => by have := hb j e; have := (hI.own.lt j hj).1; omega)
    rw [← hlenW] at hw
    refine ⟨ko, kc, rfl, (hI.same.trans hT (fun _ _ h => h)).trans hs (fun k hk e => by have := hb k e; omega), hkr, ReadV.own hw, ?_, fun h => hs.obj (hT.obj h id) (fun e => by have := hb _ e; omega)⟩
    rcases hm with h | ⟨m, h, hm⟩
    · cases h
    · cases h; exact hm

set_option maxHeartbeats 8000000 in
theorem keyFields_any {W : World} {v u : Value} {L : List V} {l : List UInt8} (hr : ReadV W v L) (hok : ∀ x ∈ L, x.ok) (hn : L.length ≤ maxLen) (hb : ReadB W u l) (hl : l.length ≤ maxLen) (hg : Handle W) :
    Calls Tryd.prog 8 #[v, u] W fun e w' => e = .returned (.bool true) ∧ Below W.heap.size W w' := by
  obtain ⟨vo, vc, rfl⟩ := readV_len hr
  have HB := Lib.hid hb
  obtain ⟨bo, bc, rfl, _⟩ := hb
  have HR := Lib.hid hr; have HOK := Lib.hid hok; have HN := Lib.hid hn; have HG := Lib.hid hg; have HL := Lib.hid hl
  clear hr hok hn hg hl
  go_enter Tryd.func8, Tryd.ntmps8
  go_wp2_with fail
  refine (known7_any HG.out).mono ?_
  rintro e w1 ⟨rfl, hs1⟩
  have H1 := Lib.hid hs1
  clear hs1
  go_wp2_with fail
  refine (few_any (HR.out.same H1.out) HOK.out HN.out 8).mono ?_
  rintro e w1' ⟨rfl, rfl⟩
  rcases few_split (L := L) (m := 8) with hf | hf
  · rw [hf]
    clear hf
    go_wp2_with fail
    go_ret
    exact ⟨rfl, same_to_below (SameW.of H1.out)⟩
  have hL := few_many hf
  have HF := Lib.hid hf
  rw [hf]
  clear hf
  by_cases h0 : L.length = 0
  · have h0' : (L.length : Int) = 0 := by omega
    go_wp2_with fail
    go_ret
    exact ⟨rfl, same_to_below (SameW.of H1.out)⟩
  have h0' : ¬ (L.length : Int) = 0 := by omega
  have h0'' : (0 : Int) < (L.length : Int) := by omega
  have h0e : ((L.length : Int) == 0) = false := by simpa using h0
  by_cases h8 : (l.length : Int) > 8
  · go_wp2_with fail
    go_ret
    exact ⟨rfl, same_to_below (SameW.of H1.out)⟩
  have h8' : (l.length : Int) ≤ 8 := by omega
  have H8 := Lib.hid h8'
  have HI0 := Lib.hid (FldI.start H1.out L)
  go_wp2_with fail
  go_loopg [8, 7] l.length (fun r i wv wr => ∃ (k : Nat) (fs : List Nat), k + r = l.length ∧ i = .int .i64 k ∧ fs.length = k ∧ FldI W w1.heap.size L fs wv wr)
  case atStart => exact ⟨0, [], by omega, rfl, rfl, HI0.out⟩
  case round =>
    obtain ⟨k, fs, hk, rfl, hfk, hI⟩ := hrel
    have HI := Lib.hid hI; have HK := Lib.hid hk; have HFK := Lib.hid hfk
    clear hk hfk
    by_cases hlt : k < l.length
    · obtain ⟨bo', bc', e1, hbc⟩ := HB.out.same hI.same
      cases e1
      obtain ⟨b, off, rfl, hbl, c0⟩ := hbc k (l[k]) (List.getElem?_eq_getElem hlt)
      have hx : ((l[k].toNat : Nat) : Int) ≤ 255 := by have := l[k].toNat_lt; omega
      have hlt' : (k : Int) < (l.length : Int) := by omega
      clear hbc
      generalize hX : ((l[k].toNat : Nat) : Int) = X at *
      have hx0 : 0 ≤ X := by omega
      clear hX hI HI0
      go_upto_region 12 with fail
      obtain ⟨f, hfX⟩ : ∃ f : Nat, X % (L.length : Int) = (f : Int) := ⟨(X % (L.length : Int)).toNat, (Int.toNat_of_nonneg (Int.emod_nonneg _ h0')).symm⟩
      have hfl : f < L.length := by have := Int.emod_lt_of_pos X h0''; omega
      rw [hfX]
      clear hfX c0 hx hx0
      obtain ⟨po, pc, hd, hp⟩ := HI.out.d
      obtain ⟨d0, d1, d2, d3⟩ := def_cells hd
      have HD := Lib.hid hd; have HP := Lib.hid hp
      have hM := lt_of_block hd
      clear hd hp d0 d1 d3
      go_wp2_with (at_builtin; refine wpList_append_elem wr rfl (.tmp 45) (.tmp 48) 66 rfl (w1.heap.size + 2) 81 (.agg #[.int .i64 0, .int .i64 0]) 2 16 Tryd.underlying66 part_info rfl (by decide) (.slice po fs.length pc) fs.length (pcells (fparts fs)) rfl HP.out [.int .i64 (f : Int), .int .i64 0] 1 ?c5 rfl ?c1 ?c2 ?c3 ?c4 ?_)
      case c5 => simp [go_sem]
      case c1 => intro u hu; simp at hu; rcases hu with rfl | rfl <;> rfl
      case c2 => have := HFK.out; have := H8.out; unfold maxLen; omega
      case c3 => have := HFK.out; have := H8.out; omega
      case c4 => omega
      intro g cap w2 hown hgrow _ _ _
      have hmid := HI.out.mid HD.out HP.out hown hgrow
      have HMID := Lib.hid hmid
      obtain ⟨e0, e1, e2, e3⟩ := def_cells hmid.2.2.2.2.2.2
      have ef := cells_free hmid.2.2.2.2.2.2
      have hM2 : w1.heap.size + 1 < w2.heap.size := hmid.2.2.2.2.2.1
      clear hown hgrow hmid e0 e1 e3
      go_upto_region 13 with fail
      generalize w2.setCell ⟨w1.heap.size + 1, 2, none⟩ (.slice (some ⟨g, 0, none⟩) (fs.length + 1) cap) = w3 at *
      have hv3 := HR.out.same HMID.out.1
      obtain ⟨vo', vc', e1, hvc⟩ := hv3
      cases e1
      obtain ⟨vb, voff, rfl, hvb, q0, q1, q2, q3⟩ := hvc f L[f] (List.getElem?_eq_getElem hfl)
      have HY := Lib.hid (show L.getD f V.nil = L[f] by rw [List.getD_eq_getElem?_getD, List.getElem?_eq_getElem hfl, Option.getD_some])
      have hM3 := lt_of_block HMID.out.2.2.2.1
      have hfl' : (f : Int) < (L.length : Int) := by omega
      clear hvc d2 e2 ef
      generalize L[f] = y at *
      obtain ⟨yk, yi, ys, yf⟩ := y
      simp only at q0 q1 q2 q3
      go_wp2_with (at_builtin; refine wpList_append_elem w3 rfl (.tmp 51) (.tmp 56) 29 rfl (w1.heap.size + 2) 38 (.agg #[.int .i64 0, .int .i64 0, .string ⟨#[]⟩, .float .f64 0]) 4 40 Tryd.underlying29 value_info rfl (by decide) u7 fs.length (vals (fwant L fs)) rfl HMID.out.2.1 [.int .i64 yk, .int .i64 yi, .string ys, .float .f64 yf] 1 ?c5 rfl ?c1 ?c2 ?c3 ?c4 ?_)
      case c5 => simp [go_sem]
      case c1 => intro u hu; simp at hu; rcases hu with rfl | rfl | rfl | rfl <;> rfl
      case c2 => have := HFK.out; have := H8.out; unfold maxLen; omega
      case c3 => have := HFK.out; have := H8.out; omega
      case c4 => omega
      intro g2 cap2 w4 hown hgrow _ _ _
      have HN4 := Lib.hid (FldI.next HI.out.hi HI.out.fl hfl HY.out HMID.out.1 HMID.out.2.1 HMID.out.2.2.1 HMID.out.2.2.2.1 HMID.out.2.2.2.2.1 hown hgrow)
      clear hown hgrow q0 q1 q2 q3
      go_wp2_with fail
      go_roundg (gk - 1)
      case measure => have := HK.out; omega
      case rel => exact ⟨k + 1, fs ++ [f], by have := HK.out; omega, by go_num, by have := HFK.out; simp; omega, HN4.out⟩
    · obtain rfl : k = l.length := by have := HK.out; omega
      have hM : ¬ (l.length : Int) < (l.length : Int) := by omega
      obtain ⟨po, pc, hd, hp⟩ := HI.out.d
      have HD := Lib.hid hd; have HP := Lib.hid hp
      clear hd hp hI HI0 hlt
      go_upto_region 14 with fail
      go_region_held3 (fun w' => w'.cell? ⟨w1.heap.size + 1, 0, none⟩ = some (.string ⟨#[120]⟩) ∧ w'.cell? ⟨w1.heap.size + 1, 1, none⟩ = some (.int .i64 1) ∧ w'.cell? ⟨w1.heap.size + 1, 2, none⟩ = some (.slice po fs.length pc) ∧ w'.cell? ⟨w1.heap.size + 1, 3, none⟩ = some (.int .i64 (-1)))
        ((first | with_reducible exact hdO | (refine def_cells (Same.obj (F := fun _ => False) ?_ HD.out id); repeat (first | with_reducible assumption | exact Same.refl _ _ | refine Same.drew ?_))))
        (first
          | (go_at_call 34; refine (hooks_any (Or.inr ⟨_, rfl⟩) _).mono ?_; rintro e wH ⟨hv, rfl, hsH, hat⟩; have hT : Same (fun _ => False) wr wH := Same.trans (by first | assumption | exact (Same.refl _ _).drew) hsH (fun _ _ h => h))
          | (go_at_call 36; refine (fld_of HR.out HOK.out HF.out (by omega) (by have := HFK.out; have := H8.out; omega) HI.out HP.out hT hat).mono ?_; rintro e wO ⟨ko, kc, rfl, hO⟩; have hdO := def_cells (hO.d HD.out)))
      have HO := Lib.hid hO
      clear hO hsH hat hT
      have hwok : ∀ y ∈ fwant L fs, y.ok := by
        intro y hy
        simp only [fwant, List.mem_map] at hy
        obtain ⟨f, hf, rfl⟩ := hy
        have hfl := HI.out.fl f hf
        rw [List.getD_eq_getElem?_getD, List.getElem?_eq_getElem hfl, Option.getD_some]
        exact HOK.out _ (List.getElem_mem hfl)
      have HWOK := Lib.hid hwok
      clear hwok
      go_wp2_with fail
      refine (vals_self HO.out.key HO.out.want HWOK.out (by have := HFK.out; have := H8.out; unfold maxLen; simp; omega)).mono ?_
      rintro e w6 ⟨rfl, hs6⟩
      have hm6 := hs6.obj HO.out.mt id
      obtain ⟨m0, m1, m2, m3⟩ := meter_cells hm6
      have H6 := Lib.hid (HO.out.same.trans hs6 (fun _ _ h => h))
      clear hs6 hm6 m1 m2 m3
      go_wp2_with fail
      go_ret
      exact ⟨rfl, same_to_below (SameW.of H6.out)⟩

end Go.Proofs.YtcbapmkipcffgaaDoor
