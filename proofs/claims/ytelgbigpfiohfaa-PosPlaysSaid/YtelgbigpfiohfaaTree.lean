/-
  Package tree over int64: its head, its nodes in memory; leaf, size, Len. Conditions: few elements, small counts.
-/
import Derived.Test.YtelgbigpfiohfaaRows
import Derived.Test.YtelgbigpfiohfaaSep
import Derived.Lib.Hide
import Derived.IntWalk
import Derived.Deep.RegionHeld3
import Derived.Deep.CutRange
namespace Go.Proofs.Ytelgbigpfiohfaa
open Go.RowKit Go.Extern.Stop Go.Stop Go.Extern Go.Lib
set_option maxRecDepth 1000000

/-- A tree's head: its first node, how many nodes were written. -/
abbrev headObj (r : Value) (n : Int) : Obj := .cells #[r, .int .i64 n] 76
/-- A node: its elements, the nodes below it, how many elements there are. -/
abbrev nodeObj (l k : Value) (n : Int) : Obj := .cells #[l, k, .int .i64 n] 83

theorem head_cells {w : World} {b : Nat} {r : Value} {n : Int} (h : w.heap[b]? = some (headObj r n)) :
    w.cell? ⟨b, 0, none⟩ = some r ∧ w.cell? ⟨b, 1, none⟩ = some (.int .i64 n) ∧ ∀ o, w.frozen? ⟨b, o, none⟩ = false := by
  simp [World.cell?, World.frozen?, h]

theorem node_cells {w : World} {b : Nat} {l k : Value} {n : Int} (h : w.heap[b]? = some (nodeObj l k n)) :
    w.cell? ⟨b, 0, none⟩ = some l ∧ w.cell? ⟨b, 1, none⟩ = some k ∧ w.cell? ⟨b, 2, none⟩ = some (.int .i64 n) ∧ ∀ o, w.frozen? ⟨b, o, none⟩ = false := by
  simp [World.cell?, World.frozen?, h]

theorem set_at {W : World} {p o : Nat} {cs : Array Value} {t : TypeId} {fr : Nat × Nat} {u : Value} (h : W.heap[p]? = some (.cells cs t fr)) : (W.setCell ⟨p, o, none⟩ u).heap[p]? = some (.cells (cs.setIfInBounds o u) t fr) := by
  simp [World.setCell, Array.getElem?_modify, h]

/-- What stands behind a node that was made: the head counts it. -/
theorem leaf_any {w : World} {t : Nat} {r : Value} {c : Int} {lo : Option Addr} {n cap : Nat} (ht : w.heap[t]? = some (headObj r c)) (hc : 0 ≤ c ∧ c ≤ 1000000000) :
    Calls Try.prog 50 #[.pointer (some ⟨t, 0, none⟩), .slice lo n cap] w fun e w' => ∃ b, e = .returned (.pointer (some ⟨b, 0, none⟩)) ∧ w.heap.size ≤ b ∧ w'.heap[b]? = some (nodeObj (.slice lo n cap) (.slice none 0 0) n) ∧ w'.heap[t]? = some (headObj r (c + 1)) ∧ Same (fun k => k = t) w w' := by
  obtain ⟨h0, h1, hf⟩ := head_cells ht
  have hlt := lt_of_block ht
  obtain ⟨c0, c1⟩ := hc
  have hs : Same (fun k => k = t) w ((w.setCell ⟨t, 1, none⟩ (.int .i64 (c + 1))).alloc (nodeObj (.slice lo n cap) (.slice none 0 0) n)) := ((Same.refl (fun k => k = t) w).setCell (p := ⟨t, 1, none⟩) (fun _ => rfl) _).alloc _
  have hsz : (w.setCell ⟨t, 1, none⟩ (.int .i64 (c + 1))).heap.size = w.heap.size := by simp
  have hb : ((w.setCell ⟨t, 1, none⟩ (.int .i64 (c + 1))).alloc (nodeObj (.slice lo n cap) (.slice none 0 0) n)).heap[w.heap.size]? = some (nodeObj (.slice lo n cap) (.slice none 0 0) n) := by
    have h := heap_alloc_new (w.setCell ⟨t, 1, none⟩ (.int .i64 (c + 1))) (nodeObj (.slice lo n cap) (.slice none 0 0) n)
    rwa [hsz] at h
  have hh : ((w.setCell ⟨t, 1, none⟩ (.int .i64 (c + 1))).alloc (nodeObj (.slice lo n cap) (.slice none 0 0) n)).heap[t]? = some (headObj r (c + 1)) :=
    ((Same.refl (fun _ => False) (w.setCell ⟨t, 1, none⟩ (.int .i64 (c + 1)))).alloc _).obj (set_at ht) id
  have HS := Lib.hid hs; have HB := Lib.hid hb; have HH := Lib.hid hh
  clear hs hb hh ht h0 hsz
  go_enter Try.func50, Try.ntmps50
  go_wp2_with fail
  go_ret
  exact ⟨_, rfl, Nat.le_refl _, HB.out, HH.out, HS.out⟩

theorem size_any {w : World} {b ln kn : Nat} {lo ko : Option Addr} {lc kc : Nat} {n : Int} (hb : w.heap[b]? = some (nodeObj (.slice lo ln lc) (.slice ko kn kc) n)) (h1 : ln ≤ 1000000) (h2 : kn ≤ 1000000) :
    Calls Try.prog 65 #[.pointer (some ⟨b, 0, none⟩)] w fun e w' => e = .returned (.int .i64 ((ln : Int) + kn)) ∧ Same (fun _ => False) w w' := by
  obtain ⟨c0, c1, c2, cf⟩ := node_cells hb
  have hlt := lt_of_block hb
  have hw : IntKind.i64.wrap ((ln : Int) + (kn : Int)) = (ln : Int) + (kn : Int) := IntWalk.i64_in _ (by omega)
  clear hb c2 cf
  go_enter Try.func65, Try.ntmps65
  go_upto_region 1 with fail
  go_region_held3 (fun w' => w'.cell? ⟨b, 0, none⟩ = some (.slice lo ln lc) ∧ w'.cell? ⟨b, 1, none⟩ = some (.slice ko kn kc))
    (exact ⟨c0, c1⟩)
    (fail)
  go_wp2_with fail
  go_ret
  exact ⟨rfl, ⟨rfl, rfl, rfl, Nat.le_refl _, fun _ _ _ => rfl⟩⟩

theorem len_any {w : World} {t b : Nat} {l k : Value} {n c : Int} (ht : w.heap[t]? = some (headObj (.pointer (some ⟨b, 0, none⟩)) c)) (hb : w.heap[b]? = some (nodeObj l k n)) :
    Calls Try.prog 47 #[.pointer (some ⟨t, 0, none⟩)] w fun e w' => e = .returned (.int .i64 n) ∧ w = w' := by
  obtain ⟨h0, h1, hf⟩ := head_cells ht
  obtain ⟨c0, c1, c2, cf⟩ := node_cells hb
  have hlt := lt_of_block ht
  have hlb := lt_of_block hb
  clear ht hb h1 hf c0 c1 cf
  go_enter Try.func47, Try.ntmps47
  go_wp2_with fail
  go_ret
  exact ⟨rfl, rfl⟩

theorem len_none {w : World} {t : Nat} {c : Int} (ht : w.heap[t]? = some (headObj (.pointer none) c)) :
    Calls Try.prog 47 #[.pointer (some ⟨t, 0, none⟩)] w fun e w' => e = .returned (.int .i64 0) ∧ w = w' := by
  obtain ⟨h0, h1, hf⟩ := head_cells ht
  have hlt := lt_of_block ht
  clear ht h1 hf
  go_enter Try.func47, Try.ntmps47
  go_wp2_with fail
  go_ret
  exact ⟨rfl, rfl⟩

end Go.Proofs.Ytelgbigpfiohfaa
