/-
  key.part with the statements' extractors: what it tells. Conditions: few values, short texts, small counts.
-/
import Derived.Test.YtcbapmkipcffgaaDoorHooks
import Derived.Test.YtcbapmkipcffgaaDoorExtract
import Derived.Deep.RegionHeld3
import Derived.Deep.CutRange
namespace Go.Proofs.YtcbapmkipcffgaaDoor
open Go.RowKit Go.Extern.Stop Go.Stop Go.Extern Go.Lib
set_option maxRecDepth 1000000

theorem cell_offo {w : World} {g b o : Nat} {u0 u1 u2 u3 v : Value} (h : w.cell? ⟨b, o, none⟩ = some v) (hb : b ≠ g) : ((((w.setCell ⟨g, 0, none⟩ u0).setCell ⟨g, 1, none⟩ u1).setCell ⟨g, 2, none⟩ u2).setCell ⟨g, 3, none⟩ u3).cell? ⟨b, o, none⟩ = some v := by
  have k : ∀ {w : World} {i : Nat} {u : Value}, w.cell? ⟨b, o, none⟩ = some v → (w.setCell ⟨g, i, none⟩ u).cell? ⟨b, o, none⟩ = some v := fun h => (World.cell?_of_block (a := ⟨b, o, none⟩) (Below.heap_setCell _ _ _ _ hb)).trans h
  exact k (k (k (k h)))

abbrev fltV (p : Nat) : Value := .iface 48 (.pointer (some ⟨p, 0, none⟩))
abbrev errN (n : Int) : Value := .iface 46 (.int .i64 n)

/-- What Extract tells with the statements' extractor n. -/
def ExTold (wh : ByteArray) (n : Int) (L : List V) (mp : Value) (c a h s : Int) (e : Ending) (w' : World) : Prop :=
  (¬ Strikes mp c a ∧ isV (exV n L) = true ∧ e = .returned (.tuple #[(exV n L).val, .nilIface]) ∧ MAt w' mp (c + 1) a h s) ∨
  (¬ Strikes mp c a ∧ isV (exV n L) = false ∧ (∃ p, e = .returned (.tuple #[V.nil.val, fltV p]) ∧ w'.heap[p]? = some (faultObj wh (errN 10) .nilIface)) ∧ MAt w' mp (c + 1) a h s) ∨
  (Strikes mp c a ∧ (∃ p q, e = .returned (.tuple #[V.nil.val, fltV p]) ∧ w'.heap[p]? = some (faultObj wh (markI q) .nilIface) ∧ w'.heap[q]? = some (markObj (1000 + a))) ∧ MAt w' mp (c + 1) a h (s + 1))

theorem hextract_play {w : World} {wh : ByteArray} {vs mp : Value} {L : List V} {n c a h s : Int} {bm bn : Nat} (hr : ReadV w vs L) (hok : ∀ y ∈ L, y.ok) (hsz : ∀ y ∈ L, y.s.size ≤ 200) (hn : L.length ≤ 1000)
    (hbm : One w bm mp 70) (hbn : One w bn (.int .i64 n) 3) (hm : MAt w mp c a h s) (hsm : MSmall c a s) :
    Calls Tryd.prog 26 #[.string wh, exF bm bn, vs] w fun e w' => Same (Blk mp) w w' ∧ ExTold wh n L mp c a h s e w' := by
  refine (extract_any (wh := wh) (F := Blk mp) (R := fun w1 e w2 => ExtEnd n L w1 mp c a h s e w2) extr_enter hr hn (fun k hk => hm.lt hk) (fun w1 x h1 h2 => ?_)).mono ?_
  · refine (extr_any h2 hok hsz hn (h1.one hbm id) (h1.one hbn id) (hm.same h1 (fun _ _ => id)) hsm).mono fun e w2 ⟨q1, q2⟩ => ⟨?_, q1, q2⟩
    rcases q2 with ⟨_, q3, _⟩ | ⟨_, p, _, q3, _⟩
    · exact Or.inl ⟨_, _, exV_ok hok hsz, q3, Or.inl rfl⟩
    · exact Or.inl ⟨_, _, nil_ok, q3, Or.inr ⟨_, _, rfl⟩⟩
  · rintro e w' ⟨w1, e0, w2, a1, a2, a3, a4, a5, a6, a7, a8⟩
    have hsame : Same (Blk mp) w w' := a4.trans a7 (fun k hk h => by omega)
    have hbk : ∀ k, Blk mp k → ¬ (w.heap.size ≤ k ∧ k < w.heap.size + 7) := fun k hk => by have := hm.lt hk; omega
    refine ⟨hsame, ?_⟩
    rcases a2 with ⟨b1, rfl, b3⟩ | ⟨b1, p, b2, rfl, b4, b5⟩
    · rcases a8 with ⟨z, c1, c2, rfl⟩ | ⟨z, p, c1, c2, rfl, ho⟩ | ⟨z, D, q, p, c1, _⟩ | ⟨T, q, p, c1, _⟩
      · have e1 := tuple2_val c1
        rw [← e1] at c2 ⊢
        exact Or.inl ⟨b1, c2, rfl, b3.same a7 hbk⟩
      · have e1 := tuple2_val c1
        rw [← e1] at c2
        exact Or.inr (Or.inl ⟨b1, c2, ⟨p, rfl, ho⟩, b3.same a7 hbk⟩)
      · have := tuple2_snd c1
        cases this
      · cases c1
    · rcases a8 with ⟨z, c1, _⟩ | ⟨z, q, c1, _⟩ | ⟨z, D, q, p', c1, rfl, ho⟩ | ⟨T, q, p, c1, _⟩
      · have := tuple2_snd c1
        cases this
      · have := tuple2_snd c1
        cases this
      · have e1 := tuple2_snd c1
        cases e1
        exact Or.inr (Or.inr ⟨b1, ⟨p', p, rfl, ho, a7.obj b5 (by omega)⟩, b4.same a7 hbk⟩)
      · cases c1

/-- A definition as a value. -/
abbrev defV (name : ByteArray) (kind : Int) (parts : Value) (cmp : Int) : Value := .agg #[.string name, .int .i64 kind, parts, .int .i64 cmp]
abbrev partV (p : Int × Int) : Value := .agg #[.int .i64 p.1, .int .i64 p.2]

/-- The hooks that a key is told with: the statements' own, or none. -/
def HkAt (w : World) (hv mp : Value) (m : Nat) : Prop := (m = 5 ∧ ∃ B, HooksAt w B hv mp) ∨ (m = 0 ∧ hv = .agg #[.slice none 0 0, .slice none 0 0])

/-- What a part tells. -/
inductive PartOut where
  | val (y : V) (c : Int)
  | noKey
  | noValue (c : Int)
  | mark (c : Int)

open Classical in
noncomputable def partOut (L : List V) (m : Nat) (mp : Value) (a : Int) (p : Int × Int) (c : Int) : PartOut :=
  if 0 ≤ p.1 ∧ p.1 < L.length then .val (L.getD p.1.toNat V.nil) c
  else if p.1 = -1 ∧ 0 ≤ p.2 ∧ p.2 < m then
    (if Strikes mp c a then .mark (c + 1) else if isV (exV p.2 L) = true then .val (exV p.2 L) (c + 1) else .noValue (c + 1))
  else .noKey

/-- What part ends with. -/
def PartEnd (wh : ByteArray) (mp : Value) (a h s c : Int) (o : PartOut) (e : Ending) (w' : World) : Prop :=
  match o with
  | .val y c' => e = .returned (.tuple #[y.val, .nilIface]) ∧ MAt w' mp c' a h s
  | .noKey => e = .returned (.tuple #[V.nil.val, errN 60]) ∧ MAt w' mp c a h s
  | .noValue c' => (∃ p, e = .returned (.tuple #[V.nil.val, fltV p]) ∧ w'.heap[p]? = some (faultObj wh (errN 10) .nilIface)) ∧ MAt w' mp c' a h s
  | .mark c' => (∃ p q, e = .returned (.tuple #[V.nil.val, fltV p]) ∧ w'.heap[p]? = some (faultObj wh (markI q) .nilIface) ∧ w'.heap[q]? = some (markObj (1000 + a))) ∧ MAt w' mp c' a h (s + 1)

/-- The four blocks that part lays. -/
abbrev partW (w : World) (name : ByteArray) (kind : Int) (parts : Value) (cmp : Int) (p : Int × Int) (ve vc : Value) : World :=
  (((w.alloc (.cells #[.string name, .int .i64 kind, parts, .int .i64 cmp] 68)).alloc (.cells #[.int .i64 p.1, .int .i64 p.2] 81)).alloc (hooksObj ve vc)).alloc V.nil.obj

end Go.Proofs.YtcbapmkipcffgaaDoor
