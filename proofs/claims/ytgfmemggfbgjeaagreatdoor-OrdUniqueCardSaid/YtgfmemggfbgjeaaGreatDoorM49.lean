/-
  Plain: a unique index of rows, by their first values, which are small numbers. Conditions: none. ordidx: a unique index by comparator 1, and a row of who came first: what Insert, Len answer. Conditions: few entries.
-/
import Derived.Test.YtgfmemggfbgjeaaGreatDoorM39
import Derived.Test.YtgfmemggfbgjeaaGreatDoorM48
import Derived.Test.YtgfmemggfbgjeaaGreatDoorM40
namespace Go.Proofs.YtgfmemggfbgjeaaGreatDoor
open Go.RowKit

theorem cmpR_one (m a : Int) (s t : List V) : cmpR 1 (numV m :: s) (numV a :: t) = cmpI m a := by
  unfold cmpR
  rw [if_neg (by decide), if_pos rfl, List.take_succ_cons, List.take_succ_cons, List.take_zero, List.take_zero, rowsV_num]

def ix (a : Int) : Nat := (a % 256).toNat
theorem ix_lt (a : Int) : ix a < 256 := by unfold ix; omega
theorem ix_inj {a b : Int} (ha : -128 ≤ a ∧ a ≤ 127) (hb : -128 ≤ b ∧ b ≤ 127) (h : ix a = ix b) : a = b := by unfold ix at h; omega

def upd (f : Nat → Int) (i : Nat) (v : Int) : Nat → Int := fun k => if k = i then v else f k

/-- A unique index behind j rows, and who came first with each number. -/
structure Uq (j : Nat) (L : List En) (f : Nat → Int) : Prop where
  num : ∀ e ∈ L, ∃ tl, e.kv = numV (numOf e) :: tl
  rng : ∀ e ∈ L, -128 ≤ numOf e ∧ numOf e ≤ 127
  ids : ∀ e ∈ L, 1 ≤ e.id ∧ e.id ≤ j
  who : ∀ e ∈ L, f (ix (numOf e)) = e.id
  back : ∀ i, f i ≠ 0 → ∃ e ∈ L, ix (numOf e) = i
  sorted : L.Pairwise (fun a b => numOf a < numOf b)

theorem Uq.nil : Uq 0 [] (fun _ => 0) := ⟨fun _ h => (by cases h), fun _ h => (by cases h), fun _ h => (by cases h), fun _ h => (by cases h), fun _ h => absurd rfl h, List.Pairwise.nil⟩

theorem Uq.up {j : Nat} {L : List En} {f : Nat → Int} (h : Uq j L f) : Uq (j + 1) L f :=
  ⟨h.num, h.rng, fun e he => by have := h.ids e he; omega, h.who, h.back, h.sorted⟩

theorem Uq.cmp {j : Nat} {L : List En} {f : Nat → Int} (h : Uq j L f) {e : En} (he : e ∈ L) (a : Int) (tl : List V) : cmpR 1 e.kv (numV a :: tl) = cmpI (numOf e) a := by
  obtain ⟨s, hs⟩ := h.num e he
  rw [hs, cmpR_one]

theorem Uq.pairs {j : Nat} {L : List En} {f : Nat → Int} (h : Uq j L f) (a : Int) (tl : List V) (rid : Int) :
    L.Pairwise (fun x y => 0 ≤ rankC 1 (numV a :: tl) rid x → 0 ≤ rankC 1 (numV a :: tl) rid y) ∧ L.Pairwise (fun x y => 0 ≤ cmpR 1 x.kv (numV a :: tl) → 0 ≤ cmpR 1 y.kv (numV a :: tl)) ∧ L.Pairwise (fun x y => 0 < cmpR 1 x.kv (numV a :: tl) → 0 < cmpR 1 y.kv (numV a :: tl)) ∧ L.Pairwise (fun x y => 0 < rankC 1 (numV a :: tl) rid x → 0 < rankC 1 (numV a :: tl) rid y) := by
  have key : ∀ {x y : En}, [x, y].Sublist L → numOf x < numOf y ∧ cmpR 1 x.kv (numV a :: tl) = cmpI (numOf x) a ∧ cmpR 1 y.kv (numV a :: tl) = cmpI (numOf y) a := fun {x y} hs =>
    ⟨List.pairwise_iff_forall_sublist.1 h.sorted hs, h.cmp (hs.subset (by simp)) a tl, h.cmp (hs.subset (by simp)) a tl⟩
  have hr : ∀ {e : En}, cmpR 1 e.kv (numV a :: tl) = cmpI (numOf e) a → (rankC 1 (numV a :: tl) rid e = 1 ↔ a < numOf e ∨ (numOf e = a ∧ rid < e.id)) ∧ (numOf e < a → rankC 1 (numV a :: tl) rid e < 0) := fun {e} he => by
    unfold rankC
    rw [he]
    have g1 := @cmpI_lt (numOf e) a; have g2 := @cmpI_pos (numOf e) a; have g3 := @cmpI_zero (numOf e) a
    by_cases e0 : cmpI (numOf e) a = 0
    · rw [if_neg (by omega)]
      have : (cmpI e.id rid = 1 ↔ rid < e.id) := by unfold cmpI; split <;> (try split) <;> omega
      constructor
      · omega
      · omega
    · rw [if_pos e0]
      have : cmpI (numOf e) a = 1 ↔ a < numOf e := by unfold cmpI; split <;> (try split) <;> omega
      constructor
      · omega
      · omega
  refine ⟨?_, ?_, ?_, ?_⟩ <;> refine List.pairwise_iff_forall_sublist.2 (fun {x y} hs => ?_) <;> obtain ⟨k1, k2, k3⟩ := key hs
  · obtain ⟨_, q⟩ := hr k2
    obtain ⟨p, _⟩ := hr k3
    intro h0
    have : ¬ numOf x < a := fun hx => by have := q hx; omega
    have := p.2 (by omega)
    omega
  · rw [k2, k3]
    have g1 := @cmpI_lt (numOf x) a; have g2 := @cmpI_lt (numOf y) a
    omega
  · rw [k2, k3]
    have g1 := @cmpI_pos (numOf x) a; have g2 := @cmpI_pos (numOf y) a
    omega
  · obtain ⟨_, q⟩ := hr k2
    obtain ⟨p, _⟩ := hr k3
    intro h0
    have : ¬ numOf x < a := fun hx => by have := q hx; omega
    have := p.2 (by omega)
    omega

/-- The one that was there. -/
theorem Uq.dup {j : Nat} {L : List En} {f : Nat → Int} (h : Uq j L f) {a : Int} {tl : List V} {y : En} (hy : y ∈ L) (h0 : cmpR 1 y.kv (numV a :: tl) = 0) : f (ix a) = y.id ∧ f (ix a) ≠ 0 := by
  rw [h.cmp hy, cmpI_zero] at h0
  have h1 := h.who y hy
  rw [h0] at h1
  have := h.ids y hy
  exact ⟨h1, by omega⟩

theorem Uq.new {j : Nat} {L : List En} {f : Nat → Int} (h : Uq j L f) {a rid : Int} {tl : List V} {e : En} {i : Nat} (ha : -128 ≤ a ∧ a ≤ 127) (hr : rid = j + 1) (hi : i ≤ L.length) (hne : ∀ y ∈ L, cmpR 1 y.kv (numV a :: tl) ≠ 0) (he : e.kv = numV a :: tl) (hid : e.id = rid)
    (h1 : ∀ y ∈ L.take i, rankC 1 (numV a :: tl) rid y < 0) (h2 : ∀ y ∈ L.drop i, 0 ≤ rankC 1 (numV a :: tl) rid y) :
    f (ix a) = 0 ∧ Uq (j + 1) (L.take i ++ e :: L.drop i) (upd f (ix a) (j + 1)) ∧ (L.take i ++ e :: L.drop i).length = L.length + 1 := by
  have hn : numOf e = a := by simp [numOf, he]
  have hna : ∀ y ∈ L, numOf y ≠ a := fun y hy hya => hne y hy (by rw [h.cmp hy, cmpI_zero]; exact hya)
  have hnx : ∀ y ∈ L, ix (numOf y) ≠ ix a := fun y hy hx => hna y hy (ix_inj (h.rng y hy) ha hx)
  have hf0 : f (ix a) = 0 := by
    by_cases h0 : f (ix a) = 0
    · exact h0
    · obtain ⟨y, hy, hx⟩ := h.back _ h0
      exact absurd hx (hnx y hy)
  have hmem : ∀ y, y ∈ L.take i ++ e :: L.drop i ↔ y ∈ L ∨ y = e := fun y => by
    conv => rhs; lhs; rw [← List.take_append_drop i L]
    simp only [List.mem_append, List.mem_cons]
    constructor
    · rintro (h | h | h)
      · exact Or.inl (Or.inl h)
      · exact Or.inr h
      · exact Or.inl (Or.inr h)
    · rintro ((h | h) | h)
      · exact Or.inl h
      · exact Or.inr (Or.inr h)
      · exact Or.inr (Or.inl h)
  refine ⟨hf0, ⟨fun y hy => ?_, fun y hy => ?_, fun y hy => ?_, fun y hy => ?_, fun k hk => ?_, ?_⟩, by simp; omega⟩
  · rcases (hmem y).1 hy with hy | rfl
    · exact h.num y hy
    · exact ⟨tl, by rw [hn]; exact he⟩
  · rcases (hmem y).1 hy with hy | rfl
    · exact h.rng y hy
    · rw [hn]; exact ha
  · rcases (hmem y).1 hy with hy | rfl
    · have := h.ids y hy; omega
    · rw [hid, hr]; omega
  · unfold upd
    rcases (hmem y).1 hy with hy | rfl
    · rw [if_neg (hnx y hy)]; exact h.who y hy
    · rw [hn, if_pos rfl, hid, hr]
  · unfold upd at hk
    by_cases hka : k = ix a
    · exact ⟨e, (hmem e).2 (Or.inr rfl), by rw [hn, hka]⟩
    · rw [if_neg hka] at hk
      obtain ⟨y, hy, hx⟩ := h.back k hk
      exact ⟨y, (hmem y).2 (Or.inl hy), hx⟩
  · have hs := h.sorted
    rw [← List.take_append_drop i L, List.pairwise_append] at hs
    obtain ⟨s1, s2, s3⟩ := hs
    have hrk : ∀ y ∈ L, (rankC 1 (numV a :: tl) rid y < 0 ↔ numOf y < a) := fun y hy => by
      unfold rankC
      rw [if_pos (hne y hy), h.cmp hy, cmpI_lt]
    rw [List.pairwise_append, List.pairwise_cons]
    refine ⟨s1, ⟨fun y hy => ?_, s2⟩, fun p hp b hb => ?_⟩
    · have hyL := List.mem_of_mem_drop hy
      have g := hrk y hyL
      have g2 := h2 y hy
      have g3 := hna y hyL
      rw [hn]
      omega
    · rcases List.mem_cons.1 hb with rfl | hb
      · rw [hn]
        exact (hrk p (List.mem_of_mem_take hp)).1 (h1 p hp)
      · exact s3 p hp b hb

end Go.Proofs.YtgfmemggfbgjeaaGreatDoor

namespace Go.Proofs.YtgfmemggfbgjeaaGreatDoor
open Go.RowKit Go.Extern.Stop Go.Stop Go.Extern Go.Lib
set_option maxRecDepth 1000000

/-- A row of 256 numbers. -/
def WhoAt (w : World) (b : Nat) (f : Nat → Int) : Prop := ∃ cs, w.heap[b]? = some (.cells cs 33 (0, 0)) ∧ cs.size = 256 ∧ ∀ i, i < 256 → cs[i]? = some (.int .i64 (f i))

theorem WhoAt.same {F : Nat → Prop} {w w' : World} {b : Nat} {f : Nat → Int} (h : WhoAt w b f) (hs : Same F w w') (hn : ¬ F b) : WhoAt w' b f := by
  obtain ⟨cs, h1, h2, h3⟩ := h
  exact ⟨cs, hs.obj h1 hn, h2, h3⟩

theorem WhoAt.cell {w : World} {b i : Nat} {f : Nat → Int} (h : WhoAt w b f) (hi : i < 256) : w.cell? ⟨b, i, none⟩ = some (.int .i64 (f i)) ∧ w.frozen? ⟨b, i, none⟩ = false ∧ b < w.heap.size := by
  obtain ⟨cs, h1, h2, h3⟩ := h
  refine ⟨?_, ?_, lt_of_block h1⟩
  · simp [World.cell?, h1, h3 i hi]
  · simp [World.frozen?, h1]

theorem WhoAt.set {w : World} {b i : Nat} {f : Nat → Int} (h : WhoAt w b f) (hi : i < 256) (v : Int) : WhoAt (w.setCell ⟨b, i, none⟩ (.int .i64 v)) b (upd f i v) ∧ Same (fun k => k = b) w (w.setCell ⟨b, i, none⟩ (.int .i64 v)) := by
  obtain ⟨cs, h1, h2, h3⟩ := h
  refine ⟨⟨cs.setIfInBounds i (.int .i64 v), vset_at h1, by simp [h2], fun k hk => ?_⟩, (Same.refl (fun k => k = b) w).setCell (p := ⟨b, i, none⟩) (fun _ => rfl) _⟩
  unfold upd
  by_cases e : k = i
  · subst e
    rw [if_pos rfl, Array.getElem?_setIfInBounds_self_of_lt (by omega)]
  · rw [if_neg e, Array.getElem?_setIfInBounds_ne (by omega)]
    exact h3 k hk

theorem OxAt.mono {w : World} {P Q : Nat → Prop} {x t bm bn : Nat} {uq : Bool} {mp : Value} {n a c : Int} {L : List En} (h : OxAt w P x t bm bn uq mp n a L c) (hPQ : ∀ k, k < w.heap.size → P k → Q k) (hQ : ∀ k, Blk mp k → ¬ Q k) : OxAt w Q x t bm bn uq mp n a L c :=
  ⟨h.idx, h.tree.mono hPQ, h.bm, h.bn, h.keys, h.sm, h.calm, hQ, h.kt⟩

theorem ilen_any {w : World} {P : Nat → Prop} {x t bm bn : Nat} {uq : Bool} {mp : Value} {n a c : Int} {L : List En} (h : OxAt w P x t bm bn uq mp n a L c) : Calls Tryz.prog 15 #[.pointer (some ⟨x, 0, none⟩)] w fun e w' => e = .returned (.int .i64 L.length) ∧ Same (fun _ => False) w w' := by
  have HL := Lib.hid (tree_len h.tree)
  obtain ⟨i0, i1, i2, il⟩ := idx_cells h.idx
  clear h
  go_enter Tryz.func15, Tryz.ntmps15
  go_wp2_with fail
  refine HL.out.mono ?_
  rintro e w1 ⟨rfl, rfl⟩
  go_wp2_with fail
  go_ret
  exact ⟨rfl, Same.refl _ _⟩

/-- A unique index in memory, without a meter, and the row of who came first. -/
structure OuI (w0 : World) (PB x t bm bn wb : Nat) (L : List En) (k : Nat) (f : Nat → Int) (w : World) : Prop where
  same : Same (fun i => w0.heap.size ≤ i) w0 w
  lo : w0.heap.size ≤ PB
  wlo : w0.heap.size ≤ wb
  ox : ∃ c, (0 ≤ c ∧ c ≤ 100 * (k : Int)) ∧ OxAt w (fun i => PB ≤ i ∧ i ≠ wb) x t bm bn true (.pointer none) 1 0 L c
  own : ∀ e ∈ L, e.key.ownBlock ≠ some wb
  who : WhoAt w wb f

theorem no_blk (k : Nat) : ¬ Blk (.pointer none) k := fun h => by cases h
theorem mat_none (w : World) : MAt w (.pointer none) 0 0 0 0 := Or.inl rfl

theorem OuI.kept {w0 w w' : World} {PB x t bm bn wb k : Nat} {L : List En} {f : Nat → Int} (h : OuI w0 PB x t bm bn wb L k f w) (hs : Same (fun _ => False) w w') : OuI w0 PB x t bm bn wb L k f w' := by
  obtain ⟨c, hc, ho⟩ := h.ox
  exact ⟨h.same.trans hs (fun _ _ h => h.elim), h.lo, h.wlo, ⟨c, hc, ho.kept (mat_none w) (hs.weaken (fun _ _ h => h.elim))⟩, h.own, h.who.same hs id⟩

theorem OuI.put {w0 w : World} {PB x t bm bn wb k i : Nat} {L : List En} {f : Nat → Int} (h : OuI w0 PB x t bm bn wb L k f w) (hi : i < 256) (v : Int) : OuI w0 PB x t bm bn wb L k (upd f i v) (w.setCell ⟨wb, i, none⟩ (.int .i64 v)) := by
  obtain ⟨c, hc, ho⟩ := h.ox
  obtain ⟨h1, hs⟩ := h.who.set hi v
  obtain ⟨cs, hw, _, _⟩ := h.who
  have ne : ∀ {b : Nat} {u : Value} {T : TypeId}, One w b u T → T ≠ 33 → ¬ b = wb := fun {b u T} hone hT e => by
    rw [e] at hone
    have h2 := Eq.trans (Eq.symm hone) hw
    simp at h2
    exact hT h2.2
  have nx : ¬ x = wb := fun e => by
    subst e
    have := ho.idx.symm.trans hw
    simp at this
  refine ⟨h.same.trans hs (fun j _ e => by have := h.wlo; omega), h.lo, h.wlo, ⟨c, hc, ⟨hs.obj ho.idx nx, ho.tree.keep hs (fun j e hp => hp.2 e), hs.one ho.bm (ne ho.bm (by decide)), hs.one ho.bn (ne ho.bn (by decide)), fun e he => (ho.keys e he).kept hs (fun j hj e' => h.own e he (by rw [hj, e'])), ho.sm, ho.calm, ho.pm, ho.kt⟩⟩, h.own, h1⟩

/-- What Insert answers, and what then stands. -/
def UqEnd (w0 : World) (PB x t bm bn wb j : Nat) (L : List En) (a : Int) (f : Nat → Int) (r : Ending) (w' : World) : Prop :=
  (f (ix a) ≠ 0 ∧ ∃ b, r = .returned (.tuple #[.int .i64 0, .iface 92 (.pointer (some ⟨b, 0, none⟩))]) ∧ w'.heap[b]? = some (twObj (f (ix a))) ∧ OuI w0 PB x t bm bn wb L L.length f w') ∨
  (f (ix a) = 0 ∧ ∃ (i : Nat) (L' : List En), r = .returned (.tuple #[.int .i64 i, .nilIface]) ∧ OuI w0 PB x t bm bn wb L' L'.length f w' ∧ Uq (j + 1) L' (upd f (ix a) (j + 1)) ∧ L'.length = L.length + 1)

theorem nums_uniq {w0 w : World} {PB x t bm bn wb j : Nat} {L : List En} {f : Nat → Int} {a rid : Int} {tl : List V} {kv : Value} (hI : OuI w0 PB x t bm bn wb L L.length f w) (hN : Uq j L f) (hK : KeyOk w (.pointer none) kv (numV a :: tl)) (ha : -128 ≤ a ∧ a ≤ 127) (hr : rid = j + 1) (hl : L.length ≤ 1000) :
    Calls Tryz.prog 12 #[.pointer (some ⟨x, 0, none⟩), kv, .int .i64 rid] w fun r w' => UqEnd w0 PB x t bm bn wb j L a f r w' := by
  obtain ⟨c, hc, ho⟩ := hI.ox
  obtain ⟨p1, p2, p3, p4⟩ := hN.pairs a tl rid
  have htP : PB ≤ t ∧ t ≠ wb := ho.tree.1
  obtain ⟨rr, hrr⟩ := ho.head
  have htl := lt_of_block hrr
  have hlo := hI.lo
  obtain ⟨_, _, hwl⟩ := hI.who.cell (i := 0) (by omega)
  refine (insert_uniq (rid := rid) ho (mat_none w) hK (fun i hi => ⟨by omega, by omega⟩) (by omega) (by omega) p1 p2 p3 p4).mono ?_
  rintro r w' ⟨c', hm', hs, hend⟩
  have hsame := hI.same.trans hs (fun i _ h => h.elim (fun h => (no_blk i h).elim) (fun h => by omega))
  have hwho : WhoAt w' wb f := hI.who.same hs (fun h => h.elim (fun h => no_blk _ h) (fun h => htP.2 h.symm))
  rcases hend with ⟨y, hy, hy1, _⟩ | ⟨i, b, y, hy, h0, _, hbw, hb, rfl, _, ho'⟩ | ⟨i, e, d, hi, f1, f2, hne, he, hid, hown, hd, rfl, ho'⟩
  · have := hN.ids y hy
    omega
  · obtain ⟨e1, e2⟩ := hN.dup (List.mem_of_getElem? hy) h0
    exact Or.inl ⟨e2, b, rfl, by rw [e1]; exact hb, ⟨hsame, hlo, hI.wlo, ⟨c, hc, ho'⟩, hI.own, hwho⟩⟩
  · obtain ⟨e1, e2, e3⟩ := hN.new ha hr hi hne he hid f1 f2
    have hfl := few_low (n := L.length) hl
    refine Or.inr ⟨e1, i, _, rfl, ⟨hsame, hlo, hI.wlo, ⟨c + d, ⟨by omega, by rw [e3]; omega⟩, ho'⟩, fun y hy hyo => ?_, hwho⟩, e2, e3⟩
    rcases List.mem_append.1 hy with h | h
    · exact hI.own y (List.mem_of_mem_take h) hyo
    · rcases List.mem_cons.1 h with rfl | h
      · have := hown wb hyo
        omega
      · exact hI.own y (List.mem_of_mem_drop h) hyo

/-- A row of the call's own, as a key. -/
theorem keyok_own {w : World} {B n : Nat} {v : Value} {K : List V} (h : w.ownsRow B 39 4 v n (vals K)) (hn : n = K.length) (hok : ∀ z ∈ K, z.ok) (hsm : ∀ z ∈ K, z.s.size ≤ 200) (hf : K.length ≤ 1000) : KeyOk w (.pointer none) v K := by
  subst hn
  exact ⟨ReadV.own h, CapOk.own h, hok, hsm, hf, fun k _ hb => no_blk k hb⟩

theorem numV_ok {m : Int} (h0 : -9223372036854775808 ≤ m) (h1 : m ≤ 9223372036854775807) : (numV m).ok :=
  ⟨by show (-9223372036854775808 : Int) ≤ 1; omega, by show (1 : Int) ≤ 9223372036854775807; omega, h0, h1, Nat.zero_le _, by show 0 < 18446744073709551616; omega⟩

end Go.Proofs.YtgfmemggfbgjeaaGreatDoor
