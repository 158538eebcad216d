/-
  What the laws on positions lean on: lists of rows (plain); rialtohelp.Ids; posidx's calls with a budget. Conditions: few elements.
-/
import Derived.Test.YtelgbigpfiohfaaPosD
import Derived.BigQuiet
import Derived.Deep.QuietTactic
namespace Go.Proofs.Ytelgbigpfiohfaa
open Go.RowKit Go.Extern.Stop Go.Stop Go.Extern Go.Lib Go.Maps
set_option maxRecDepth 1000000

/-- A row laid at a place. -/
def ins (M : List Int) (u : Nat) (y : Int) : List Int := M.take u ++ y :: M.drop u
/-- The row of a place taken out. -/
def out (L : List Int) (u : Nat) : List Int := L.take u ++ L.drop (u + 1)

theorem ins_length (M : List Int) (u : Nat) (y : Int) : (ins M u y).length = M.length + 1 := by
  simp only [ins, List.length_append, List.length_cons, List.length_take, List.length_drop]
  omega

theorem out_length {L : List Int} {u : Nat} (hu : u < L.length) : (out L u).length = L.length - 1 := by
  simp only [out, List.length_append, List.length_take, List.length_drop]
  omega

theorem ins_get {M : List Int} {u : Nat} {y : Int} (hu : u ≤ M.length) : (ins M u y)[u]? = some y := by
  rw [ins, List.getElem?_append_right (by rw [List.length_take]; omega), List.length_take, Nat.min_eq_left hu, Nat.sub_self]
  rfl

theorem ins_idx {M : List Int} {u : Nat} {y : Int} (hu : u ≤ M.length) (hy : y ∉ M) : (ins M u y).idxOf y = u := by
  have h1 := idxOf_first (ins_get (y := y) hu)
  rcases Nat.lt_or_ge ((ins M u y).idxOf y) u with h2 | h2
  · have hm : y ∈ ins M u y := List.mem_of_getElem? (ins_get (y := y) hu)
    have h3 := idxOf_get hm
    rw [ins, List.getElem?_append_left (by rw [List.length_take]; rw [ins] at h2; omega)] at h3
    exact absurd (List.mem_of_mem_take (List.mem_of_getElem? h3)) hy
  · omega

theorem out_ins {M : List Int} {u : Nat} {y : Int} (hu : u ≤ M.length) : out (ins M u y) u = M := by
  have e : (M.take u).length = u := by rw [List.length_take]; omega
  have h1 : (ins M u y).take u = M.take u := by
    rw [ins, List.take_append_of_le_length (by omega), List.take_take, Nat.min_self]
  have h2 : (ins M u y).drop (u + 1) = M.drop u := by
    rw [ins, List.drop_append, e, List.drop_of_length_le (by omega), List.nil_append, show u + 1 - u = 1 by omega]
    rfl
  rw [out, h1, h2, List.take_append_drop]

theorem ins_out {L : List Int} {u : Nat} {y : Int} (hu : L[u]? = some y) : ins (out L u) u y = L := by
  have hl : u < L.length := (List.getElem?_eq_some_iff.1 hu).1
  have e : (L.take u).length = u := by rw [List.length_take]; omega
  have h1 : (out L u).take u = L.take u := by rw [out, List.take_append_of_le_length (by omega), List.take_take, Nat.min_self]
  have h2 : (out L u).drop u = L.drop (u + 1) := by rw [out, List.drop_append, e, List.drop_of_length_le (by omega), List.nil_append, Nat.sub_self]; rfl
  rw [ins, h1, h2, ← (List.getElem?_eq_some_iff.1 hu).2, ← List.drop_eq_getElem_cons hl, List.take_append_drop]

theorem moved_eq (L : List Int) (y : Int) (u : Nat) : movedTo L y u = ins (out L (L.idxOf y)) u y := rfl

theorem out_not {L : List Int} {y : Int} (hn : L.Nodup) (hy : y ∈ L) : y ∉ out L (L.idxOf y) := by
  have hi : L.idxOf y < L.length := List.idxOf_lt_length_iff.2 hy
  intro h
  exact ((erase_mem hi hn y).1 h).1 (List.getElem_idxOf hi).symm

/-- Where a row that was moved stands. -/
theorem moved_idx {L : List Int} {y : Int} {u : Nat} (hn : L.Nodup) (hy : y ∈ L) (hu : u < L.length) : (movedTo L y u).idxOf y = u := by
  have hi : L.idxOf y < L.length := List.idxOf_lt_length_iff.2 hy
  rw [moved_eq]
  exact ins_idx (by rw [out_length hi]; omega) (out_not hn hy)

/-- Moved back. -/
theorem moved_back {L : List Int} {y : Int} {u : Nat} (hn : L.Nodup) (hy : y ∈ L) (hu : u < L.length) : movedTo (movedTo L y u) y (L.idxOf y) = L := by
  have hi : L.idxOf y < L.length := List.idxOf_lt_length_iff.2 hy
  have h1 := moved_idx hn hy hu
  rw [moved_eq (movedTo L y u), h1, moved_eq L, out_ins (by rw [out_length hi]; omega)]
  exact ins_out (idxOf_get hy)

/-- Moved to where it stands. -/
theorem moved_here {L : List Int} {y : Int} (hy : y ∈ L) : movedTo L y (L.idxOf y) = L := by
  rw [moved_eq]
  exact ins_out (idxOf_get hy)

set_option maxHeartbeats 4000000 in
theorem ids_any {w : World} {a b : Value} {L : List Int} (ha : ReadC w 2 a (intsV L)) (hb : ReadC w 2 b (intsV L)) (hL : L.length ≤ 100000) :
    Calls Try.prog 27 #[a, b] w fun e w' => e = .returned (.bool true) ∧ Same (fun _ => False) w w' := by
  have hlV : (intsV L).length = L.length := by simp
  have HA := Lib.hid ha; have HB := Lib.hid hb
  obtain ⟨ao, ac, rfl, -, -⟩ := ha
  obtain ⟨bo, bc, rfl, -, -⟩ := hb
  rw [hlV] at HA HB ⊢
  clear hlV
  go_enter Try.func27, Try.ntmps27
  go_wp2_with fail
  go_loopg [5] L.length (fun rr vi wr => ∃ (j : Nat), j + rr = L.length ∧ vi = .int .i64 j ∧ Same (fun _ => False) w wr)
  case atStart => exact ⟨0, by omega, rfl, Same.refl _ _⟩
  case round =>
    obtain ⟨j, hj, rfl, hs⟩ := hrel
    have HS := Lib.hid hs
    by_cases hlast : j < L.length
    · have hl' : (j : Int) < (L.length : Int) := by omega
      have ra := HA.out.kept hs (fun _ _ => id)
      have rb := HB.out.kept hs (fun _ _ => id)
      obtain ⟨ab, ao2, ac2, acs, afr, ea, hab, _⟩ := ra.where (by simpa using (by omega : 0 < L.length))
      obtain ⟨bb, bo2, bc2, bcs, bfr, eb, hbb, _⟩ := rb.where (by simpa using (by omega : 0 < L.length))
      simp only [Value.slice.injEq] at ea eb
      obtain ⟨rfl, -, -⟩ := ea
      obtain ⟨rfl, -, -⟩ := eb
      have hx := ra.cell (j := j) (x := .int .i64 L[j]) (by simp [hlast])
      have hy := rb.cell (j := j) (x := .int .i64 L[j]) (by simp [hlast])
      have hla := lt_of_block hab
      have hlb := lt_of_block hbb
      have hjb : (j : Int) < 100001 := by omega
      generalize L[j] = z at *
      clear ra rb hab hbb hs
      go_wp2_with fail
      go_quiet (fail)
      go_wp2_with fail
      go_roundg (gk - 1)
      case measure => omega
      case rel => exact ⟨j + 1, by omega, by go_num, HS.out.drewN _⟩
    · have hl' : ¬ (j : Int) < (L.length : Int) := by omega
      clear hs
      go_wp2_with fail
      go_ret
      exact ⟨rfl, HS.out⟩

/-- The index, with a budget: k calls that turned it. -/
def IxB (T : TypeId) (w : World) (B x : Nat) (L : List Int) (k : Nat) : Prop := ∃ c N, IxAt T w (fun q => B ≤ q) x L c N ∧ 0 ≤ c ∧ c ≤ 1000 * k ∧ N ≤ k

theorem IxB.keep {T : TypeId} {w w' : World} {B x k : Nat} {L : List Int} (h : IxB T w B x L k) (hs : Same (fun _ => False) w w') : IxB T w' B x L k := by
  obtain ⟨c, N, hi, h2⟩ := h
  exact ⟨c, N, hi.keep hs (fun _ h => h.elim), h2⟩

theorem IxB.base {T : TypeId} {w : World} {B x k : Nat} {L : List Int} (h : IxB T w B x L k) : B ≤ w.heap.size := by
  obtain ⟨c, N, ⟨t, mb, hx, _, hb, _⟩, _⟩ := h
  have : B ≤ x := hx
  have := lt_of_block hb
  omega

theorem IxB.ok {T : TypeId} {w : World} {B x k : Nat} {L : List Int} (h : IxB T w B x L k) : L.Nodup ∧ ∀ y ∈ L, I64 y := by
  obtain ⟨c, N, ⟨t, mb, _, _, _, _, _, _, h7, h8⟩, _⟩ := h
  exact ⟨h7, h8⟩

theorem most_small {n : Nat} (h : n ≤ 80000) : 2 * Most n ≤ 1000 := by
  have h1 : Nat.log2 (n + 1) < 17 := (Nat.log2_lt (by omega)).2 (by omega)
  unfold Most
  omega

theorem ixb_got {T : TypeId} {w w' : World} {B x k most : Nat} {L' : List Int} {c : Int} {N : Nat} (h0 : 0 ≤ c) (h1 : c ≤ 1000 * k) (h2 : N ≤ k) (hm : most ≤ 1000) (h : IxGot T w w' (fun q => B ≤ q) x L' c N most) : IxB T w' B x L' (k + 1) ∧ Same (fun q => B ≤ q) w w' := by
  obtain ⟨⟨d, hd, hi⟩, hs⟩ := h
  exact ⟨⟨c + d, N + 1, hi, by omega, by omega, by omega⟩, hs⟩

theorem posB_insert {w : World} {B x k : Nat} {L : List Int} {i y : Int} {u : Nat} (h : IxB 62 w B x L k) (hi : i = u) (hu : u ≤ L.length) (hL : L.length ≤ 80000) (hk : k ≤ 100000) (hy : y ∉ L) (hy64 : I64 y) :
    Calls Try.prog 10 #[.pointer (some ⟨x, 0, none⟩), .int .i64 i, .int .i64 y] w fun e w' => e = .returned (.int .i64 0) ∧ IxB 62 w' B x (ins L u y) (k + 1) ∧ Same (fun q => B ≤ q) w w' := by
  have hB := h.base
  obtain ⟨c, N, hx, h0, h1, h2⟩ := h
  subst hi
  refine (pos_insert hx (fun q hq => by show B ≤ q; omega) hL ⟨h0, by omega⟩ (by omega) hu hy hy64).mono ?_
  rintro e w' ⟨rfl, hg⟩
  exact ⟨rfl, ixb_got h0 h1 h2 (by have := most_small hL; omega) hg⟩

theorem posB_move {w : World} {B x k : Nat} {L : List Int} {i y p : Int} {u : Nat} (h : IxB 62 w B x L k) (hi : i = u) (hu : u < L.length) (hL : L.length ≤ 80000) (hk : k ≤ 100000) (hy : y ∈ L) (hp : p = L.idxOf y) :
    Calls Try.prog 11 #[.pointer (some ⟨x, 0, none⟩), .int .i64 y, .int .i64 i] w fun e w' => e = .returned (.tuple #[.int .i64 p, .int .i64 0]) ∧ IxB 62 w' B x (movedTo L y u) (k + 1) ∧ Same (fun q => B ≤ q) w w' := by
  have hB := h.base
  have hk' := h
  obtain ⟨c, N, hx, h0, h1, h2⟩ := h
  subst hi hp
  by_cases he : L.idxOf y = u
  · subst he
    refine (pos_move_same hx (by omega) hy).mono ?_
    rintro e w' ⟨rfl, hs⟩
    rw [moved_here hy]
    obtain ⟨c, N, a1, a2, a3, a4⟩ := hk'.keep hs
    exact ⟨rfl, ⟨c, N, a1, a2, by omega, by omega⟩, hs.weaken (fun _ _ h => h.elim)⟩
  · refine (pos_move hx (fun q hq => by show B ≤ q; omega) hL ⟨h0, by omega⟩ hy hu he).mono ?_
    rintro e w' ⟨rfl, hg⟩
    exact ⟨rfl, ixb_got h0 h1 h2 (most_small hL) hg⟩

theorem posB_place {w : World} {B x k : Nat} {L : List Int} {y p : Int} (h : IxB 62 w B x L k) (hL : L.length ≤ 80000) (hy : y ∈ L) (hp : p = L.idxOf y) :
    Calls Try.prog 12 #[.pointer (some ⟨x, 0, none⟩), .int .i64 y] w fun e w' => e = .returned (.tuple #[.int .i64 p, .bool true]) ∧ Same (fun _ => False) w w' := by
  obtain ⟨c, N, hx, _⟩ := h
  subst hp
  exact pos_place hx (by omega) hy

theorem posB_at {w : World} {B x k : Nat} {L : List Int} {i y : Int} {u : Nat} (h : IxB 62 w B x L k) (hL : L.length ≤ 80000) (hi : i = u) (hy : L[u]? = some y) :
    Calls Try.prog 13 #[.pointer (some ⟨x, 0, none⟩), .int .i64 i] w fun e w' => e = .returned (.tuple #[.int .i64 y, .bool true]) ∧ w = w' := by
  obtain ⟨c, N, hx, _⟩ := h
  subst hi
  have hl := (List.getElem?_eq_some_iff.1 hy).1
  have he := (List.getElem?_eq_some_iff.1 hy).2
  rw [← he]
  exact pos_at hx (by omega) hl

end Go.Proofs.Ytelgbigpfiohfaa
