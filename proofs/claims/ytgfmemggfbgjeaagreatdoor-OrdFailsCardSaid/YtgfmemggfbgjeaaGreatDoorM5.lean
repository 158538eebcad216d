/-
  Laws of no one program: cells of a row that are written one behind the other. Conditions: none. slices.Clone over elements and over nodes: a row of the call's own. Conditions: the row isn't empty, is not long.
-/
import Derived.Test.YtgfmemggfbgjeaaGreatDoorM4
import Derived.Laws.IdiomCopy
namespace Go.Proofs.YtgfmemggfbgjeaaGreatDoor
open Go.RowKit Go.Lib

/-- A list in whose places from o on vs stands. -/
def spl (l : List Value) (o : Nat) (vs : List Value) : List Value := l.take o ++ vs ++ l.drop (o + vs.length)

theorem spl_length {l : List Value} {o : Nat} {vs : List Value} (h : o + vs.length ≤ l.length) : (spl l o vs).length = l.length := by
  simp only [spl, List.length_append, List.length_take, List.length_drop]
  omega

theorem spl_cons {l : List Value} {o : Nat} {v : Value} {vs : List Value} (h : o + (vs.length + 1) ≤ l.length) : spl (l.set o v) (o + 1) vs = spl l o (v :: vs) := by
  simp only [spl, List.length_cons]
  have h1 : (l.set o v).take (o + 1) = l.take o ++ [v] := by
    rw [List.take_add_one, List.take_set_of_le (Nat.le_refl _)]
    simp [show o < l.length by omega]
  rw [h1, List.drop_set_of_lt (by omega), show o + 1 + vs.length = o + (vs.length + 1) by omega]
  simp

theorem setCells_row {g : Nat} {T : TypeId} {fr : Nat × Nat} : ∀ (vs : List Value) (o : Nat) (w : World) (cs : List Value), w.heap[g]? = some (.cells cs.toArray T fr) → o + vs.length ≤ cs.length → (w.setCells g o vs).heap[g]? = some (.cells (spl cs o vs).toArray T fr)
  | [], o, w, cs, h, _ => by rw [World.setCells, h]; simp [spl]
  | v :: vs, o, w, cs, h, hl => by
    rw [List.length_cons] at hl
    rw [World.setCells]
    have h1 := set_at (o := o) (u := v) h
    rw [show (cs.toArray.setIfInBounds o v) = (cs.set o v).toArray by simp] at h1
    rw [setCells_row vs (o + 1) _ _ h1 (by rw [List.length_set]; omega), spl_cons (by omega)]

theorem setCells_other {g b : Nat} (hb : b ≠ g) : ∀ (vs : List Value) (o : Nat) (w : World), (w.setCells g o vs).heap[b]? = w.heap[b]?
  | [], _, _ => rfl
  | v :: vs, o, w => by
    rw [World.setCells, setCells_other hb vs]
    exact Below.heap_setCell _ _ _ _ hb

theorem setCells_size {g : Nat} : ∀ (vs : List Value) (o : Nat) (w : World), (w.setCells g o vs).heap.size = w.heap.size
  | [], _, _ => rfl
  | v :: vs, o, w => by rw [World.setCells, setCells_size vs]; simp [World.setCell]

theorem setCells_rest {g : Nat} : ∀ (vs : List Value) (o : Nat) (w : World), (w.setCells g o vs).os = w.os ∧ (w.setCells g o vs).tape = w.tape ∧ (w.setCells g o vs).output = w.output
  | [], _, _ => ⟨rfl, rfl, rfl⟩
  | v :: vs, o, w => by rw [World.setCells]; exact setCells_rest vs _ _

theorem Same.setCells {F : Nat → Prop} {w w1 : World} (h : Same F w w1) {g : Nat} (hg : g < w.heap.size → F g) (o : Nat) (vs : List Value) : Same F w (w1.setCells g o vs) := by
  obtain ⟨a, b, c⟩ := setCells_rest (g := g) vs o w1
  exact ⟨a.trans h.os, b.trans h.tape, c.trans h.output, by rw [setCells_size]; exact h.size, fun k hk hn => (setCells_other (fun e => hn (by subst e; exact hg hk)) vs o w1).trans (h.block k hk hn)⟩

theorem drew_heap (w : World) : w.drew.heap = w.heap := rfl

/-- A row of the call's own, taken apart. -/
theorem ownsRow_open {w : World} {B : Nat} {T : TypeId} {g n cap : Nat} {xs : List Value} (h : w.ownsRow B T 1 (.slice (some ⟨g, 0, none⟩) n cap) n xs) :
    B ≤ g ∧ n ≤ cap ∧ cap ≤ maxLen ∧ xs.length = n ∧ ∃ cs : List Value, cs.length = cap ∧ cs.take n = xs ∧ w.heap[g]? = some (.cells cs.toArray T (0, 0)) := by
  obtain ⟨hl, h2⟩ := h
  rcases h2 with ⟨e, _⟩ | ⟨g', cap', cur, e, hb, hg, hnc, hcm, hcs, ht⟩
  · cases e
  · simp only [Value.slice.injEq, Option.some.injEq, Addr.mk.injEq] at e
    obtain ⟨⟨rfl, _⟩, _, rfl⟩ := e
    exact ⟨hb, hnc, hcm, by omega, cur.toList, by simpa using hcs, by simpa using ht, by simpa using hg⟩

theorem ownsRow_shut {w : World} {B : Nat} {T : TypeId} {g n cap : Nat} {xs cs : List Value} (hB : B ≤ g) (hn : n ≤ cap) (hc : cap ≤ maxLen) (hl : cs.length = cap) (ht : cs.take n = xs) (hg : w.heap[g]? = some (.cells cs.toArray T (0, 0))) :
    w.ownsRow B T 1 (.slice (some ⟨g, 0, none⟩) n cap) n xs := by
  have hx : xs.length = n := by rw [← ht, List.length_take]; omega
  exact ⟨by omega, Or.inr ⟨g, cap, cs.toArray, rfl, hB, hg, hn, hc, by simpa using hl, by simpa using ht⟩⟩

/-- A row of the call's own, its elements two cells each, taken apart. -/
theorem ownsRow_open2 {w : World} {B : Nat} {T : TypeId} {g n cap : Nat} {xs : List Value} (h : w.ownsRow B T 2 (.slice (some ⟨g, 0, none⟩) n cap) n xs) :
    B ≤ g ∧ n ≤ cap ∧ cap ≤ maxLen ∧ xs.length = n * 2 ∧ ∃ cs : List Value, cs.length = cap * 2 ∧ cs.take (n * 2) = xs ∧ w.heap[g]? = some (.cells cs.toArray T (0, 0)) := by
  obtain ⟨hl, h2⟩ := h
  rcases h2 with ⟨e, _⟩ | ⟨g', cap', cur, e, hb, hg, hnc, hcm, hcs, ht⟩
  · cases e
  · simp only [Value.slice.injEq, Option.some.injEq, Addr.mk.injEq] at e
    obtain ⟨⟨rfl, _⟩, _, rfl⟩ := e
    exact ⟨hb, hnc, hcm, hl, cur.toList, by simpa using hcs, ht, by simpa using hg⟩

theorem ownsRow_shut2 {w : World} {B : Nat} {T : TypeId} {g n cap : Nat} {xs cs : List Value} (hB : B ≤ g) (hn : n ≤ cap) (hc : cap ≤ maxLen) (hl : cs.length = cap * 2) (ht : cs.take (n * 2) = xs) (hg : w.heap[g]? = some (.cells cs.toArray T (0, 0))) :
    w.ownsRow B T 2 (.slice (some ⟨g, 0, none⟩) n cap) n xs := by
  have hx : xs.length = n * 2 := by rw [← ht, List.length_take]; omega
  exact ⟨hx, Or.inr ⟨g, cap, cs.toArray, rfl, hB, hg, hn, hc, by simpa using hl, by simpa using ht⟩⟩

end Go.Proofs.YtgfmemggfbgjeaaGreatDoor

namespace Go.Proofs.YtgfmemggfbgjeaaGreatDoor
open Go.RowKit Go.Extern.Stop Go.Stop Go.Extern Go.Lib
set_option maxRecDepth 1000000

theorem slice_nili (n c : Nat) (w : World) : (binOp BinOp.eql 61 (.slice none n c) (.slice none 0 0)).run Tryz.prog w = .ok (.bool true) w := by kernel_rfl
theorem slice_somei (a : Addr) (n c : Nat) (w : World) : (binOp BinOp.eql 61 (.slice (some a) n c) (.slice none 0 0)).run Tryz.prog w = .ok (.bool false) w := by kernel_rfl

theorem infoi : ∃ i, Tryz.prog.info? 57 = some i ∧ i.zero = some (.agg #[.slice none 0 0, .int .i64 0]) ∧ i.size = 2 ∧ i.bytes = 32 :=
  info_parts (by kernel_rfl : (Tryz.prog.info? 57).map (fun i => (i.zero, i.size, i.bytes)) = some (some (.agg #[.slice none 0 0, .int .i64 0]), 2, 32))

theorem clonei {w : World} {v : Value} {L : List En} (h : ReadE w v L) (h0 : 0 < L.length) (hn : L.length ≤ 1000000) :
    Calls Tryz.prog 79 #[v] w fun e w' => ∃ g cap, e = .returned (.slice (some ⟨g, 0, none⟩) L.length cap) ∧ w'.ownsRow w.heap.size 57 2 (.slice (some ⟨g, 0, none⟩) L.length cap) L.length (entsV L) ∧ Same (fun _ => False) w w' := by
  obtain ⟨b, off, cap, cs, fr, rfl, hb, _⟩ := ReadE.where h h0
  have e1 := slice_somei
  have HC := Lib.hid (show ∀ j u, (entsV L)[j]? = some u → (w.alloc (.cells #[] 57)).cell? ((⟨b, off, none⟩ : Addr).add j) = some u from fun j u hj => by
    rw [Addr.add_lit]
    exact Lib.cell?_alloc_some _ (ReadZ.cell h hj))
  have H1 := Lib.hid (ents_one L)
  have HO := Lib.hid (show (w.alloc (.cells #[] 57)).ownsRow w.heap.size 57 2 (.slice (some ⟨w.heap.size, 0, none⟩) 0 0) 0 [] from World.ownsRow_made w #[] 0 (Nat.le_refl _) (Nat.zero_le _) (by simp))
  have HI := Lib.hid infoi
  clear h hb
  go_enter Tryz.func79, Tryz.ntmps79
  go_wp2_with (at_builtin; obtain ⟨i0, hi, hz, hsz, hby⟩ := HI.out; refine wpList_append_own (w := w.alloc (.cells #[] 57)) rfl _ _ 61 rfl w.heap.size 57 i0 (.agg #[.slice none 0 0, .int .i64 0]) 2 32 rfl hi hz hsz hby rfl (by omega) _ 0 [] rfl HO.out ⟨b, off, none⟩ L.length cap (entsV L) rfl ?q1 HC.out H1.out ?q2 ?q3 ?q4 ?_)
  case q1 => rw [entsV_length]
  case q2 => rw [Nat.zero_add]; unfold maxLen; omega
  case q3 => omega
  case q4 => simp
  intro v' w1 hown hgrow hnil
  have hs : Same (fun _ => False) w w1 := ((Same.refl (fun _ => False) w).alloc (.cells #[] 57)).grown hgrow (by intro k hk; simp [Value.ownBlock] at hk; omega)
  have hv : ∃ g c, v' = .slice (some ⟨g, 0, none⟩) L.length c := by
    rcases hown.2 with ⟨rfl, h2⟩ | ⟨g, c, _, rfl, _⟩
    · omega
    · exact ⟨g, c, rfl⟩
  obtain ⟨g, c, rfl⟩ := hv
  have HW := Lib.hid hown; have HS := Lib.hid hs
  clear hown hgrow hnil hs hi hz hsz hby i0
  go_wp2_with fail
  go_ret
  exact ⟨_, _, rfl, HW.out, HS.out⟩

theorem slice_nilk (n c : Nat) (w : World) : (binOp BinOp.eql 114 (.slice none n c) (.slice none 0 0)).run Tryz.prog w = .ok (.bool true) w := by kernel_rfl
theorem slice_somek (a : Addr) (n c : Nat) (w : World) : (binOp BinOp.eql 114 (.slice (some a) n c) (.slice none 0 0)).run Tryz.prog w = .ok (.bool false) w := by kernel_rfl

theorem infok : ∃ i, Tryz.prog.info? 109 = some i ∧ i.zero = some (.pointer none) ∧ i.size = 1 ∧ i.bytes = 8 :=
  info_parts (by kernel_rfl : (Tryz.prog.info? 109).map (fun i => (i.zero, i.size, i.bytes)) = some (some (.pointer none), 1, 8))

theorem clonek {w : World} {v : Value} {l : List Value} (h : ReadC w 109 v l) (h0 : 0 < l.length) (hn : l.length ≤ 1000000) (h1 : ∀ x ∈ l, x.oneCell' = true) :
    Calls Tryz.prog 82 #[v] w fun e w' => ∃ g cap, e = .returned (.slice (some ⟨g, 0, none⟩) l.length cap) ∧ w'.ownsRow w.heap.size 109 1 (.slice (some ⟨g, 0, none⟩) l.length cap) l.length l ∧ Same (fun _ => False) w w' := by
  obtain ⟨b, off, cap, cs, fr, rfl, hb, _⟩ := h.where h0
  have e1 := slice_somek
  have HC := Lib.hid (show ∀ j u, l[j]? = some u → (w.alloc (.cells #[] 109)).cell? ((⟨b, off, none⟩ : Addr).add j) = some u from fun j u hj => by
    rw [Addr.add_lit]
    exact Lib.cell?_alloc_some _ (h.cell hj))
  have H1 := Lib.hid h1
  have HO := Lib.hid (show (w.alloc (.cells #[] 109)).ownsRow w.heap.size 109 1 (.slice (some ⟨w.heap.size, 0, none⟩) 0 0) 0 [] from World.ownsRow_made w #[] 0 (Nat.le_refl _) (Nat.zero_le _) (by simp))
  have HI := Lib.hid infok
  clear h hb h1
  go_enter Tryz.func82, Tryz.ntmps82
  go_wp2_with (at_builtin; obtain ⟨i0, hi, hz, hsz, hby⟩ := HI.out; refine wpList_append_own (w := w.alloc (.cells #[] 109)) rfl _ _ 114 rfl w.heap.size 109 i0 (.pointer none) 1 8 rfl hi hz hsz hby rfl (by omega) _ 0 [] rfl HO.out ⟨b, off, none⟩ l.length cap l rfl ?q1 HC.out H1.out ?q2 ?q3 ?q4 ?_)
  case q1 => omega
  case q2 => rw [Nat.zero_add]; unfold maxLen; omega
  case q3 => omega
  case q4 => simp
  intro v' w1 hown hgrow hnil
  have hs : Same (fun _ => False) w w1 := ((Same.refl (fun _ => False) w).alloc (.cells #[] 109)).grown hgrow (by intro k hk; simp [Value.ownBlock] at hk; omega)
  have hv : ∃ g c, v' = .slice (some ⟨g, 0, none⟩) l.length c := by
    rcases hown.2 with ⟨rfl, h2⟩ | ⟨g, c, _, rfl, _⟩
    · omega
    · exact ⟨g, c, rfl⟩
  obtain ⟨g, c, rfl⟩ := hv
  have HW := Lib.hid hown; have HS := Lib.hid hs
  clear hown hgrow hnil hs hi hz hsz hby i0
  go_wp2_with fail
  go_ret
  exact ⟨_, _, rfl, HW.out, HS.out⟩

end Go.Proofs.YtgfmemggfbgjeaaGreatDoor
