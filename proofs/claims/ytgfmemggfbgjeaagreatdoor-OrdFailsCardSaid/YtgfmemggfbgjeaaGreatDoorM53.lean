/-
  ordidx: an index of numbers by comparator 2 whose meter stands at nought, and a row of entries that was told before: EraseAt, InsertAt, Place, All, Len. Conditions: few entries.
-/
import Derived.Test.YtgfmemggfbgjeaaGreatDoorM52
import Derived.Test.YtgfmemggfbgjeaaGreatDoorM40
namespace Go.Proofs.YtgfmemggfbgjeaaGreatDoor
open Go.RowKit Go.Extern.Stop Go.Stop Go.Extern Go.Lib
set_option maxRecDepth 1000000

theorem OxAt.keepF {F : Nat → Prop} {w w' : World} {P : Nat → Prop} {x t bm bn : Nat} {uq : Bool} {mp : Value} {n a c : Int} {L : List En} (hO : OxAt w P x t bm bn uq mp n a L c) (hs : Same F w w') (hx : ¬ F x) (hbm : ¬ F bm) (hbn : ¬ F bn) (hP : ∀ k, F k → ¬ P k) (hk : ∀ e ∈ L, ∀ k, e.key.ownBlock = some k → ¬ F k) : OxAt w' P x t bm bn uq mp n a L c :=
  ⟨hs.obj hO.idx hx, hO.tree.keep hs hP, hs.one hO.bm hbm, hs.one hO.bn hbn, fun e he => (hO.keys e he).kept hs (hk e he), hO.sm, hO.calm, hO.pm, hO.kt⟩

theorem OxAt.narrow {w : World} {P Q : Nat → Prop} {x t bm bn : Nat} {uq : Bool} {mp : Value} {n a c : Int} {L : List En} (h : OxAt w P x t bm bn uq mp n a L c) (hPQ : ∀ k, k < w.heap.size → P k → Q k) (hQ : ∀ k, Blk mp k → ¬ Q k) : OxAt w Q x t bm bn uq mp n a L c :=
  ⟨h.idx, h.tree.mono hPQ, h.bm, h.bn, h.keys, h.sm, h.calm, hQ, h.kt⟩

theorem readV_lt {w : World} {v : Value} {K : List V} (h : ReadV w v K) (hK : K ≠ []) {k : Nat} (hk : v.ownBlock = some k) : k < w.heap.size := by
  obtain ⟨ao, cap, rfl, hc⟩ := h
  match K, hK with
  | z :: K, _ =>
    obtain ⟨b, off, rfl, hb, _⟩ := hc 0 z rfl
    have : b = k := by simpa [Value.ownBlock] using hk
    omega

/-- The index, the meter at nought, the row that was told. -/
structure OrP (w0 : World) (PB M x t bm bn N : Nat) (A : Nat → Prop) (wv : Value) (W L : List En) (k : Nat) (w : World) : Prop where
  same : Same (fun i => w0.heap.size ≤ i) w0 w
  lo : w0.heap.size ≤ PB
  tn : x < N ∧ t < N ∧ bm < N ∧ bn < N ∧ M < N ∧ PB ≤ N
  nA : ∀ i, A i → N ≤ i ∧ i < w.heap.size
  ox : ∃ c, (0 ≤ c ∧ c ≤ 100 * (k : Int)) ∧ OxAt w (fun i => PB ≤ i ∧ ¬ A i) x t bm bn false (mtp M) 2 0 L c
  mm : MAt w (mtp M) 0 0 0 0
  was : EntsR w wv W
  off : ∀ i, wv.ownBlock = some i → i < N ∧ i ≠ t
  koff : ∀ e ∈ W, ∀ i, e.key.ownBlock = some i → i < N ∧ i ≠ t
  wN : N ≤ w.heap.size

theorem OrP.quiet {w0 w w' : World} {PB M x t bm bn N k : Nat} {A : Nat → Prop} {wv : Value} {W L : List En} (h : OrP w0 PB M x t bm bn N A wv W L k w) (hs : Same (fun _ => False) w w') : OrP w0 PB M x t bm bn N A wv W L k w' := by
  obtain ⟨c, hc, ho⟩ := h.ox
  exact ⟨h.same.trans hs (fun _ _ h => h.elim), h.lo, h.tn, fun i hi => ⟨(h.nA i hi).1, Nat.lt_of_lt_of_le (h.nA i hi).2 hs.size⟩, ⟨c, hc, ho.kept h.mm (hs.weaken (fun _ _ h => h.elim))⟩, h.mm.same hs (fun _ _ => id), h.was.kept hs (fun _ _ => id) (fun _ _ _ _ => id), h.off, h.koff, Nat.le_trans h.wN hs.size⟩

/-- Rows beside the index grew. -/
theorem OrP.beside {w0 w w' : World} {PB M x t bm bn N k : Nat} {A A' : Nat → Prop} {wv : Value} {W L : List En} (h : OrP w0 PB M x t bm bn N A wv W L k w) (hs : Same A w w') (hk : ∀ e ∈ L, ∀ i, e.key.ownBlock = some i → i < N) (hA : ∀ i, A' i → N ≤ i ∧ i < w'.heap.size ∧ (A i ∨ w.heap.size ≤ i)) : OrP w0 PB M x t bm bn N A' wv W L k w' := by
  obtain ⟨c, hc, ho⟩ := h.ox
  obtain ⟨t1, t2, t3, t4, t5, t6⟩ := h.tn
  have hlo := h.lo
  have hn : ∀ i, i < N → ¬ A i := fun i hi ha => by have := (h.nA i ha).1; omega
  have hAA : ∀ i, i < w.heap.size → (PB ≤ i ∧ ¬ A i) → (PB ≤ i ∧ ¬ A i ∧ ¬ A' i) := fun i hi hp => ⟨hp.1, hp.2, fun ha => by
    rcases (hA i ha).2.2 with h | h
    · exact hp.2 h
    · omega⟩
  have ho2 : OxAt w (fun i => PB ≤ i ∧ ¬ A i ∧ ¬ A' i) x t bm bn false (mtp M) 2 0 L c := ho.narrow hAA (fun i hb hp => ho.pm i hb ⟨hp.1, hp.2.1⟩)
  have ho3 := ho2.keepF hs (hn x t1) (hn bm t3) (hn bn t4) (fun i ha hp => hp.2.1 ha) (fun e he i hi => hn i (hk e he i hi))
  have ho4 := ho3.narrow (Q := fun i => PB ≤ i ∧ ¬ A' i) (fun i _ hp => ⟨hp.1, hp.2.2⟩) (fun i hb hp => by
    have e := blk_mtp hb
    exact ho.pm i hb ⟨hp.1, hn i (by omega)⟩)
  exact ⟨h.same.trans hs (fun i hi ha => by have := (h.nA i ha).1; omega), h.lo, h.tn, fun i hi => ⟨(hA i hi).1, (hA i hi).2.1⟩, ⟨c, hc, ho4⟩, h.mm.same hs (fun i hb ha => by
    have e := blk_mtp hb
    exact hn i (by omega) ha), h.was.kept hs (fun i hi => hn i (h.off i hi).1) (fun e he i hi => hn i (h.koff e he i hi).1), h.off, h.koff, Nat.le_trans h.wN hs.size⟩

/-- The index turned. -/
theorem OrP.turned {w0 w w' : World} {PB M x t bm bn N k : Nat} {A : Nat → Prop} {wv : Value} {W L L' : List En} (h : OrP w0 PB M x t bm bn N A wv W L k w) (hs : Same (fun i => i = t) w w') (hm : MAt w' (mtp M) 0 0 0 0) (ho : ∃ c, (0 ≤ c ∧ c ≤ 100 * ((k + 1 : Nat) : Int)) ∧ OxAt w' (fun i => PB ≤ i ∧ ¬ A i) x t bm bn false (mtp M) 2 0 L' c) : OrP w0 PB M x t bm bn N A wv W L' (k + 1) w' := by
  obtain ⟨c, hc, ho1⟩ := h.ox
  have ht := ho1.tree.1.1
  have hlo := h.lo
  exact ⟨h.same.trans hs (fun i hi e => by omega), h.lo, h.tn, fun i hi => ⟨(h.nA i hi).1, Nat.lt_of_lt_of_le (h.nA i hi).2 hs.size⟩, ho, hm, h.was.kept hs (fun i hi e => (h.off i hi).2 e) (fun e he i hi e2 => (h.koff e he i hi).2 e2), h.off, h.koff, Nat.le_trans h.wN hs.size⟩

theorem orp_erase {w0 w : World} {PB M x t bm bn N k i : Nat} {A : Nat → Prop} {wv : Value} {W L : List En} (h : OrP w0 PB M x t bm bn N A wv W L k w) (hi : i < L.length) (hL : L.length ≤ 1000) (hk : k ≤ 10000) :
    Calls Tryz.prog 22 #[.pointer (some ⟨x, 0, none⟩), .int .i64 i] w fun r w' => r = .returned (.tuple #[L[i].agg, .int .i64 0]) ∧ OrP w0 PB M x t bm bn N A wv W (L.take i ++ L.drop (i + 1)) (k + 1) w' ∧ Same (fun q => q = t) w w' := by
  obtain ⟨c, hc, ho⟩ := h.ox
  have hn := h.tn
  have htP : PB ≤ t := ho.tree.1.1
  obtain ⟨rr, hrr⟩ := ho.head
  have htl := lt_of_block hrr
  refine (ierase_any ho h.mm (fun q hq => ⟨by omega, fun ha => by have := (h.nA q ha).2; omega⟩) (by omega) (by omega) hi).mono ?_
  rintro r w' ⟨rfl, d, hd, ho', hm', hs⟩
  have hfl := few_low (n := L.length) hL
  exact ⟨rfl, h.turned hs hm' ⟨c + d, by omega, ho'⟩, hs⟩

theorem orp_insert {w0 w : World} {PB M x t bm bn N k i : Nat} {A : Nat → Prop} {wv : Value} {W L : List En} {e : En} (h : OrP w0 PB M x t bm bn N A wv W L k w) (he : KeyOk w (mtp M) e.key e.kv) (hi : i ≤ L.length) (hL : L.length ≤ 1000) (hk : k ≤ 10000) :
    Calls Tryz.prog 24 #[.pointer (some ⟨x, 0, none⟩), .int .i64 i, e.agg] w fun r w' => r = .returned (.int .i64 0) ∧ ∃ e' : En, e'.id = e.id ∧ e'.kv = e.kv ∧ OrP w0 PB M x t bm bn N A wv W (L.take i ++ e' :: L.drop i) (k + 1) w' ∧ Same (fun q => q = t) w w' := by
  obtain ⟨c, hc, ho⟩ := h.ox
  have hn := h.tn
  have htP : PB ≤ t := ho.tree.1.1
  obtain ⟨rr, hrr⟩ := ho.head
  have htl := lt_of_block hrr
  refine (iinsert_any ho h.mm he (fun q hq => ⟨by omega, fun ha => by have := (h.nA q ha).2; omega⟩) (by omega) (by omega) hi).mono ?_
  rintro r w' ⟨rfl, e', d, h1, h2, hd, ho', hm', hs⟩
  have hfl := few_low (n := L.length) hL
  exact ⟨rfl, e', h1, h2, h.turned hs hm' ⟨c + d, by omega, ho'⟩, hs⟩

theorem orp_len {w0 w : World} {PB M x t bm bn N k : Nat} {A : Nat → Prop} {wv : Value} {W L : List En} (h : OrP w0 PB M x t bm bn N A wv W L k w) : Calls Tryz.prog 15 #[.pointer (some ⟨x, 0, none⟩)] w fun e w' => e = .returned (.int .i64 L.length) ∧ Same (fun _ => False) w w' := by
  obtain ⟨c, hc, ho⟩ := h.ox
  exact xlen_any ho

theorem orp_noplace {w0 w : World} {PB M x t bm bn N k : Nat} {A : Nat → Prop} {wv : Value} {W L : List En} {rid : Int} (h : OrP w0 PB M x t bm bn N A wv W L k w) (hL : L.length ≤ 1000) (hr : ∀ z ∈ L, z.id ≠ rid) : Calls Tryz.prog 23 #[.pointer (some ⟨x, 0, none⟩), .int .i64 rid] w fun e w' => e = .returned (.tuple #[.int .i64 0, .bool false]) ∧ Same (fun _ => False) w w' := by
  obtain ⟨c, hc, ho⟩ := h.ox
  refine (iplace_any ho h.mm (by omega)).mono ?_
  rintro r w' ⟨hp, hs⟩
  rcases hp with ⟨i, y, hy, h1, _⟩ | ⟨_, rfl⟩
  · exact absurd h1 (hr y (List.mem_of_getElem? hy))
  · exact ⟨rfl, hs⟩

theorem orp_bad {w0 w : World} {PB M x t bm bn N k : Nat} {A : Nat → Prop} {wv : Value} {W L : List En} (h : OrP w0 PB M x t bm bn N A wv W L k w) : Calls Tryz.prog 22 #[.pointer (some ⟨x, 0, none⟩), .int .i64 L.length] w fun r w' => r = .returned (.tuple #[En.nil.agg, .int .i64 73]) ∧ Same (fun _ => False) w w' := by
  obtain ⟨c, hc, ho⟩ := h.ox
  exact ierase_no ho (Or.inr (Int.le_refl _))

theorem orp_worse {w0 w : World} {PB M x t bm bn N k : Nat} {A : Nat → Prop} {wv : Value} {W L : List En} (h : OrP w0 PB M x t bm bn N A wv W L k w) : Calls Tryz.prog 24 #[.pointer (some ⟨x, 0, none⟩), .int .i64 (-1), En.nil.agg] w fun r w' => r = .returned (.int .i64 73) ∧ Same (fun _ => False) w w' := by
  obtain ⟨c, hc, ho⟩ := h.ox
  exact iinsert_no ho ⟨none, 0, rfl, fun j x hj => by simp at hj⟩ (Nat.zero_le _) (Or.inl (by omega))

theorem orp_all {w0 w : World} {PB M x t bm bn N k : Nat} {A : Nat → Prop} {wv : Value} {W L : List En} (h : OrP w0 PB M x t bm bn N A wv W L k w) (hL : L.length ≤ 1000) : Calls Tryz.prog 19 #[.pointer (some ⟨x, 0, none⟩)] w fun r w' => ∃ v L', r = .returned v ∧ kvs L' = kvs L ∧ EntsR w' v L' ∧ Same (fun _ => False) w w' := by
  obtain ⟨c, hc, ho⟩ := h.ox
  refine (iall_any ho h.mm (by omega)).mono ?_
  rintro r w' ⟨v, L', rfl, hkv, how, hk, hs⟩
  exact ⟨v, L', rfl, hkv, ⟨ownsRow_readZ how, fun e he => (hk e he).1⟩, hs⟩

theorem kvs_mem {A B : List En} (h : kvs A = kvs B) {x : En} (hx : x ∈ A) : ∃ y ∈ B, y.id = x.id ∧ y.kv = x.kv := by
  have h1 : (x.id, x.kv) ∈ kvs A := List.mem_map.2 ⟨x, hx, rfl⟩
  rw [h] at h1
  obtain ⟨y, hy, he⟩ := List.mem_map.1 h1
  exact ⟨y, hy, (Prod.mk.inj he).1, (Prod.mk.inj he).2⟩

/-- All has told; the meter is set to nought. -/
theorem orp_start {w0 w1 w2 w3 : World} {PB M x t bm bn k : Nat} {h s : Int} {v : Value} {W L : List En} (hI : OrI w0 PB M x t bm bn false 2 h s L k w1) (how : w2.ownsRow w1.heap.size 57 2 v L.length (entsV W)) (hk : ∀ e ∈ W, ReadV w2 e.key e.kv ∧ CapOk e.key ∧ ∀ i, e.key.ownBlock = some i → w1.heap.size ≤ i ∧ i < w2.heap.size)
    (h12 : Same (fun _ => False) w1 w2) (h23 : Same (fun i => i = M) w2 w3) (hm : w3.heap[M]? = some (meterObj 0 0 0 0)) : OrP w0 PB M x t bm bn w3.heap.size (fun _ => False) v W L k w3 := by
  obtain ⟨c, hc, ho⟩ := hI.ox
  obtain ⟨cc, hmm⟩ := hI.mm
  have hlo := hI.lo; have hmid := hI.mid
  obtain ⟨rr, hrr⟩ := ho.head
  have htl := lt_of_block hrr
  have s12 := h12.size; have s23 := h23.size
  have hxl := lt_of_block ho.idx
  have hb1 := ho.bm.lt; have hb2 := ho.bn.lt
  have hml : M < w1.heap.size := hmm.lt (by simp [Blk])
  have htP : PB ≤ t := ho.tree.1
  have hm2 : MAt w2 (mtp M) cc 0 h s := hmm.same h12 (fun _ _ => id)
  have h23' : Same (Blk (mtp M)) w2 w3 := h23.weaken (fun i _ e => by subst e; simp [Blk])
  have ho3 := (ho.kept hmm (h12.weaken (fun _ _ h => h.elim))).kept hm2 h23'
  have hPB : PB ≤ t := htP
  refine ⟨(hI.same.trans h12 (fun _ _ h => h.elim)).trans h23 (fun i hi e => by omega), by omega, ⟨by omega, by omega, by omega, by omega, by omega, by omega⟩, fun _ h => h.elim, ⟨c, hc, ho3.narrow (fun i _ h => ⟨h, id⟩) (fun i hb hp => ho.pm i hb hp.1)⟩, Or.inr ⟨M, rfl, hm⟩, EntsR.kept (w := w2) ⟨ownsRow_readZ how, fun e he => (hk e he).1⟩ h23 (fun i hi e => ?_) (fun e he i hi e2 => ?_), fun i hi => ?_, fun e he i hi => ?_, Nat.le_refl _⟩
  · have := (how.lt i hi).1; omega
  · have := ((hk e he).2.2 i hi).1; omega
  · have := how.lt i hi; omega
  · have := (hk e he).2.2 i hi; omega

end Go.Proofs.YtgfmemggfbgjeaaGreatDoor
