/-
  key.part, whatever part it is asked for; what key.Of tells. Conditions: few values, short texts, small counts.
-/
import Derived.Test.YtcbapmkipcffgaaDoorKeyPartW
import Derived.Test.YtcbapmkipcffgaaDoorHookValues
namespace Go.Proofs.YtcbapmkipcffgaaDoor
open Go.RowKit Go.Extern.Stop Go.Stop Go.Extern Go.Lib
set_option maxRecDepth 1000000

theorem part_any {w : World} {name : ByteArray} {kind cmp : Int} {vs mp hv : Value} {L : List V} {c a h s F H : Int} {po : Option Addr} {m pn pc : Nat} (hh : HkAt w hv mp m) (hr : ReadV w vs L) (hok : ∀ y ∈ L, y.ok) (hsz : ∀ y ∈ L, y.s.size ≤ 200) (hn : L.length ≤ 1000) (hm : MAt w mp c a h s) (hsm : MSmall c a s) :
    Calls Tryd.prog 69 #[defV name kind (.slice po pn pc) cmp, partV (F, H), hv, vs] w fun e w' => Same (Blk mp) w w' ∧ PartEnd name mp a h s c (partOut L m mp a (F, H) c) e w' := by
  unfold partOut
  by_cases h1 : 0 ≤ F ∧ F < L.length
  · simp only [if_pos h1]
    obtain ⟨k, rfl⟩ : ∃ k : Nat, F = k := ⟨F.toNat, by omega⟩
    obtain ⟨ao, cap, co, cap2, n2, rfl⟩ := hh.view
    have hk : k < L.length := by omega
    refine (part_field hr hn hm k hk (L[k]) (List.getElem?_eq_getElem hk)).mono ?_
    rintro e w' ⟨g1, g2, g3⟩
    refine ⟨g1, ?_, g3⟩
    rw [g2, Int.toNat_natCast, List.getD_eq_getElem?_getD, List.getElem?_eq_getElem hk, Option.getD_some]
  · simp only [if_neg h1]
    by_cases h2 : F = -1 ∧ 0 ≤ H ∧ H < m
    · simp only [if_pos h2]
      obtain ⟨rfl, h3, h4⟩ := h2
      obtain ⟨k, rfl⟩ : ∃ k : Nat, H = k := ⟨H.toNat, by omega⟩
      rcases hh with ⟨rfl, B, ve, vc, rfl, f1, f2⟩ | ⟨rfl, rfl⟩
      · obtain ⟨ao, cap, rfl⟩ := f1.view
        obtain ⟨co, cap2, rfl⟩ := f2.view
        refine (part_hook hr hok hsz hn hm hsm k B (by omega) f1).mono ?_
        rintro e w' ⟨g1, g2⟩
        refine ⟨g1, ?_⟩
        rcases g2 with ⟨x1, x2, x3, x4⟩ | ⟨x1, x2, x3, x4⟩ | ⟨x1, x3, x4⟩
        · rw [if_neg x1, if_pos x2]; exact ⟨x3, x4⟩
        · rw [if_neg x1, if_neg (by simp [x2])]; exact ⟨x3, x4⟩
        · rw [if_pos x1]; exact ⟨x3, x4⟩
      · omega
    · simp only [if_neg h2]
      obtain ⟨ao, cap, co, cap2, n2, rfl⟩ := hh.view
      exact part_none hr hn hm h1 h2

/-- A slice of parts that can be read. -/
def ReadP (w : World) (v : Value) (P : List (Int × Int)) : Prop :=
  ∃ ao cap, v = .slice ao P.length cap ∧ ∀ j p, P[j]? = some p → ∃ b off, ao = some ⟨b, off, none⟩ ∧ b < w.heap.size ∧
    w.cell? ⟨b, off + j * 2, none⟩ = some (.int .i64 p.1) ∧ w.cell? ⟨b, off + j * 2 + 1, none⟩ = some (.int .i64 p.2)

theorem ReadP.keep {W w' : World} {v : Value} {P : List (Int × Int)} (h : ReadP W v P) (hs : Same (fun k => W.heap.size ≤ k) W w') : ReadP w' v P := by
  obtain ⟨ao, cap, rfl, hc⟩ := h
  refine ⟨ao, cap, rfl, fun j x hj => ?_⟩
  obtain ⟨b, off, rfl, hb, e0, e1⟩ := hc j x hj
  have hblk := hs.block b hb (by omega)
  exact ⟨b, off, rfl, Nat.lt_of_lt_of_le hb hs.size, (World.cell?_of_block (a := ⟨b, _, none⟩) hblk).trans e0, (World.cell?_of_block (a := ⟨b, _, none⟩) hblk).trans e1⟩

theorem ReadP.same {w w' : World} {v : Value} {P : List (Int × Int)} (h : ReadP w v P) (hs : Same (fun _ => False) w w') : ReadP w' v P := h.keep (hs.weaken (fun _ _ h => h.elim))

/-- What key.Of tells. -/
inductive KeyOut where
  | keys (l : List V) (c : Int)
  | noKey (c : Int)
  | noValue (c : Int)
  | mark (c : Int)

def KeyOut.of (o : PartOut) (c : Int) (go : List V → Int → KeyOut) (acc : List V) : KeyOut :=
  match o with
  | .val y c' => go (acc ++ [y]) c'
  | .noKey => .noKey c
  | .noValue c' => .noValue c'
  | .mark c' => .mark c'

noncomputable def keyOut (L : List V) (m : Nat) (mp : Value) (a : Int) : List (Int × Int) → List V → Int → KeyOut
  | [], acc, c => .keys acc c
  | p :: ps, acc, c => KeyOut.of (partOut L m mp a p c) c (keyOut L m mp a ps) acc

theorem keyOut_at {L : List V} {m : Nat} {mp : Value} {a : Int} {P : List (Int × Int)} {k : Nat} {p : Int × Int} (h : P[k]? = some p) (acc : List V) (c : Int) :
    keyOut L m mp a (P.drop k) acc c = KeyOut.of (partOut L m mp a p c) c (keyOut L m mp a (P.drop (k + 1))) acc := by
  obtain ⟨hk, rfl⟩ := List.getElem?_eq_some_iff.1 h
  rw [List.drop_eq_getElem_cons hk, keyOut]

/-- How key.Of ends. -/
def OfEnd (wh : ByteArray) (mp : Value) (a h s : Int) (B : Nat) (o : KeyOut) (e : Ending) (w' : World) : Prop :=
  match o with
  | .keys l c' => (∃ v, e = .returned (.tuple #[v, .nilIface]) ∧ w'.ownsRow B 38 4 v l.length (vals l)) ∧ MAt w' mp c' a h s
  | .noKey c' => e = .returned (.tuple #[.slice none 0 0, errN 60]) ∧ MAt w' mp c' a h s
  | .noValue c' => (∃ p, e = .returned (.tuple #[.slice none 0 0, fltV p]) ∧ w'.heap[p]? = some (faultObj wh (errN 10) .nilIface)) ∧ MAt w' mp c' a h s
  | .mark c' => (∃ p q, e = .returned (.tuple #[.slice none 0 0, fltV p]) ∧ w'.heap[p]? = some (faultObj wh (markI q) .nilIface) ∧ w'.heap[q]? = some (markObj (1000 + a))) ∧ MAt w' mp c' a h (s + 1)

abbrev defObj (name : ByteArray) (kind : Int) (parts : Value) (cmp : Int) : Obj := .cells #[.string name, .int .i64 kind, parts, .int .i64 cmp] 68

/-- What stands at a round of key.Of. -/
structure OfI (w : World) (name : ByteArray) (kind : Int) (parts : Value) (cmp : Int) (ve vc : Value) (L : List V) (m : Nat) (mp : Value) (a h s : Int) (P : List (Int × Int)) (c0 : Int) (k : Nat) (kv : Value) (done : List V) (c : Int) (wr : World) : Prop where
  same : Same (Blk mp) w wr
  d : wr.heap[w.heap.size]? = some (defObj name kind parts cmp)
  hk : wr.heap[w.heap.size + 1]? = some (hooksObj ve vc)
  own : wr.ownsRow (w.heap.size + 2) 38 4 kv done.length (vals done)
  mt : MAt wr mp c a h s
  out : keyOut L m mp a (P.drop k) done c = keyOut L m mp a P [] c0
  len : done.length = k
  cl : c0 ≤ c ∧ c ≤ c0 + k

section
variable {w : World} {name : ByteArray} {kind : Int} {parts : Value} {cmp : Int} {ve vc : Value} {L : List V} {m : Nat} {mp : Value} {a h s : Int} {P : List (Int × Int)} {c0 : Int}

theorem OfI.start (hm : MAt w mp c0 a h s) : OfI w name kind parts cmp ve vc L m mp a h s P c0 0 (.slice none 0 0) [] c0 ((w.alloc (defObj name kind parts cmp)).alloc (hooksObj ve vc)) := by
  have hs : Same (fun _ => False) w ((w.alloc (defObj name kind parts cmp)).alloc (hooksObj ve vc)) := ((Same.refl _ w).alloc _).alloc _
  refine ⟨hs.weaken (fun _ _ h => h.elim), ?_, ?_, World.ownsRow_nil _ _ _ _, hm.same hs (fun _ _ => id), rfl, rfl, by omega⟩
  · exact ((Same.refl (fun _ => False) (w.alloc (defObj name kind parts cmp))).alloc (hooksObj ve vc)).obj (heap_alloc_new w _) id
  · have h := heap_alloc_new (w.alloc (defObj name kind parts cmp)) (hooksObj ve vc)
    rwa [show (w.alloc (defObj name kind parts cmp)).heap.size = w.heap.size + 1 by simp] at h

theorem OfI.blk_lt {k : Nat} {kv : Value} {done : List V} {c : Int} {wr : World} (hm : MAt w mp c0 a h s) (hI : OfI w name kind parts cmp ve vc L m mp a h s P c0 k kv done c wr) {o : Obj} {w2 : World} (hs : Same (Blk mp) (wr.alloc o) w2) :
    Same (Blk mp) wr w2 ∧ w2.heap[w.heap.size]? = some (defObj name kind parts cmp) ∧ w2.heap[w.heap.size + 1]? = some (hooksObj ve vc) ∧ w2.ownsRow (w.heap.size + 2) 38 4 kv done.length (vals done) ∧ w.heap.size + 2 ≤ w2.heap.size := by
  have h0 : ∀ x, Blk mp x → x < w.heap.size := fun x hx => hm.lt hx
  have hs2 : Same (Blk mp) wr w2 := ((Same.refl (Blk mp) wr).alloc o).trans hs (fun _ _ h => h)
  refine ⟨hs2, hs2.obj hI.d (fun hx => by have := h0 _ hx; omega), hs2.obj hI.hk (fun hx => by have := h0 _ hx; omega), hs2.row hI.own (fun k hk hx => by have := h0 _ hx; have := (hI.own.lt k hk).1; omega), ?_⟩
  have := lt_of_block hI.hk
  have := hs2.size
  omega

theorem OfI.next {k g cap : Nat} {kv : Value} {done : List V} {c c' : Int} {y : V} {p : Int × Int} {wr w2 w4 : World} {o : Obj} (hm : MAt w mp c0 a h s) (hI : OfI w name kind parts cmp ve vc L m mp a h s P c0 k kv done c wr) (hs : Same (Blk mp) (wr.alloc o) w2) (hp : P[k]? = some p) (ho : partOut L m mp a p c = .val y c') (hc : c ≤ c' ∧ c' ≤ c + 1)
    (hmt : MAt w2 mp c' a h s) (hown : w4.ownsRow (w.heap.size + 2) 38 4 (.slice (some ⟨g, 0, none⟩) (done.length + 1) cap) (done.length + 1) (vals done ++ y.cells)) (hg : (w2.alloc y.obj).grownBy w4 kv.ownBlock) :
    OfI w name kind parts cmp ve vc L m mp a h s P c0 (k + 1) (.slice (some ⟨g, 0, none⟩) (done.length + 1) cap) (done ++ [y]) c' w4 := by
  obtain ⟨b1, b2, b3, b4, b5⟩ := hI.blk_lt hm hs
  have h0 : ∀ x, Blk mp x → x < w.heap.size := fun x hx => hm.lt hx
  have hk0 : ∀ x, kv.ownBlock = some x → w.heap.size + 2 ≤ x := fun x hx => (b4.lt x hx).1
  have h24 : Same (fun x => kv.ownBlock = some x) w2 w4 := ((Same.refl (fun x => kv.ownBlock = some x) w2).alloc _).grown hg (fun x hx _ => hx)
  refine ⟨(hI.same.trans b1 (fun _ _ h => h)).trans h24 (fun x hx he => by have := hk0 x he; omega), h24.obj b2 (fun he => by have := hk0 _ he; omega), h24.obj b3 (fun he => by have := hk0 _ he; omega), ?_, hmt.same h24 (fun x hx he => by have := hk0 x he; have := h0 x hx; omega), ?_, by simp [hI.len], ?_⟩
  · rw [vals_snoc, List.length_append]; exact hown
  · have h1 := hI.out
    rw [keyOut_at hp, ho] at h1
    exact h1
  · have := hI.cl
    push_cast
    omega
end

theorem partOut_calls {L : List V} {m : Nat} {mp : Value} {a : Int} {p : Int × Int} {c : Int} {y : V} {c' : Int} (h : partOut L m mp a p c = .val y c') : c ≤ c' ∧ c' ≤ c + 1 := by
  unfold partOut at h
  split at h
  · cases h; omega
  · split at h
    · split at h
      · cases h
      · split at h
        · cases h; omega
        · cases h
    · cases h

end Go.Proofs.YtcbapmkipcffgaaDoor
