/-
  slices.Clone over elements and over nodes: a row of the call's own. Conditions: the row isn't empty, is not long.
-/
import Derived.Test.YtelgbigpfiohfaaTreeRow
namespace Go.Proofs.Ytelgbigpfiohfaa
open Go.RowKit Go.Extern.Stop Go.Stop Go.Extern Go.Lib
set_option maxRecDepth 1000000

theorem slice_nili (n c : Nat) (w : World) : (binOp BinOp.eql 38 (.slice none n c) (.slice none 0 0)).run Try.prog w = .ok (.bool true) w := by kernel_rfl
theorem slice_somei (a : Addr) (n c : Nat) (w : World) : (binOp BinOp.eql 38 (.slice (some a) n c) (.slice none 0 0)).run Try.prog w = .ok (.bool false) w := by kernel_rfl

theorem infoi : ∃ i, Try.prog.info? 2 = some i ∧ i.zero = some (.int .i64 0) ∧ i.size = 1 ∧ i.bytes = 8 :=
  info_parts (by kernel_rfl : (Try.prog.info? 2).map (fun i => (i.zero, i.size, i.bytes)) = some (some (.int .i64 0), 1, 8))

theorem clonei {w : World} {v : Value} {l : List Value} (h : ReadC w 2 v l) (h0 : 0 < l.length) (hn : l.length ≤ 1000000) (h1 : ∀ x ∈ l, x.oneCell' = true) :
    Calls Try.prog 60 #[v] w fun e w' => ∃ g cap, e = .returned (.slice (some ⟨g, 0, none⟩) l.length cap) ∧ w'.ownsRow w.heap.size 2 1 (.slice (some ⟨g, 0, none⟩) l.length cap) l.length l ∧ Same (fun _ => False) w w' := by
  obtain ⟨b, off, cap, cs, fr, rfl, hb, _⟩ := h.where h0
  have e1 := slice_somei
  have HC := Lib.hid (show ∀ j u, l[j]? = some u → (w.alloc (.cells #[] 2)).cell? ((⟨b, off, none⟩ : Addr).add j) = some u from fun j u hj => by
    rw [Addr.add_lit]
    exact Lib.cell?_alloc_some _ (h.cell hj))
  have H1 := Lib.hid h1
  have HO := Lib.hid (show (w.alloc (.cells #[] 2)).ownsRow w.heap.size 2 1 (.slice (some ⟨w.heap.size, 0, none⟩) 0 0) 0 [] from World.ownsRow_made w #[] 0 (Nat.le_refl _) (Nat.zero_le _) (by simp))
  have HI := Lib.hid infoi
  clear h hb h1
  go_enter Try.func60, Try.ntmps60
  go_wp2_with (at_builtin; obtain ⟨i0, hi, hz, hsz, hby⟩ := HI.out; refine wpList_append_own (w := w.alloc (.cells #[] 2)) rfl _ _ 38 rfl w.heap.size 2 i0 (.int .i64 0) 1 8 rfl hi hz hsz hby rfl (by omega) _ 0 [] rfl HO.out ⟨b, off, none⟩ l.length cap l rfl ?q1 HC.out H1.out ?q2 ?q3 ?q4 ?_)
  case q1 => omega
  case q2 => rw [Nat.zero_add]; unfold maxLen; omega
  case q3 => omega
  case q4 => simp
  intro v' w1 hown hgrow hnil
  have hs : Same (fun _ => False) w w1 := ((Same.refl (fun _ => False) w).alloc (.cells #[] 2)).grown hgrow (by intro k hk; simp [Value.ownBlock] at hk; omega)
  have hv : ∃ g c, v' = .slice (some ⟨g, 0, none⟩) l.length c := by
    rcases hown.2 with ⟨rfl, h2⟩ | ⟨g, c, _, rfl, _⟩
    · omega
    · exact ⟨g, c, rfl⟩
  obtain ⟨g, c, rfl⟩ := hv
  have HW := Lib.hid hown; have HS := Lib.hid hs
  clear hown hgrow hnil hs hi hz hsz hby i0
  go_wp2_with fail
  go_ret
  exact ⟨_, _, rfl, HW.out, HS.out⟩

theorem slice_nilk (n c : Nat) (w : World) : (binOp BinOp.eql 78 (.slice none n c) (.slice none 0 0)).run Try.prog w = .ok (.bool true) w := by kernel_rfl
theorem slice_somek (a : Addr) (n c : Nat) (w : World) : (binOp BinOp.eql 78 (.slice (some a) n c) (.slice none 0 0)).run Try.prog w = .ok (.bool false) w := by kernel_rfl

theorem infok : ∃ i, Try.prog.info? 74 = some i ∧ i.zero = some (.pointer none) ∧ i.size = 1 ∧ i.bytes = 8 :=
  info_parts (by kernel_rfl : (Try.prog.info? 74).map (fun i => (i.zero, i.size, i.bytes)) = some (some (.pointer none), 1, 8))

theorem clonek {w : World} {v : Value} {l : List Value} (h : ReadC w 74 v l) (h0 : 0 < l.length) (hn : l.length ≤ 1000000) (h1 : ∀ x ∈ l, x.oneCell' = true) :
    Calls Try.prog 63 #[v] w fun e w' => ∃ g cap, e = .returned (.slice (some ⟨g, 0, none⟩) l.length cap) ∧ w'.ownsRow w.heap.size 74 1 (.slice (some ⟨g, 0, none⟩) l.length cap) l.length l ∧ Same (fun _ => False) w w' := by
  obtain ⟨b, off, cap, cs, fr, rfl, hb, _⟩ := h.where h0
  have e1 := slice_somek
  have HC := Lib.hid (show ∀ j u, l[j]? = some u → (w.alloc (.cells #[] 74)).cell? ((⟨b, off, none⟩ : Addr).add j) = some u from fun j u hj => by
    rw [Addr.add_lit]
    exact Lib.cell?_alloc_some _ (h.cell hj))
  have H1 := Lib.hid h1
  have HO := Lib.hid (show (w.alloc (.cells #[] 74)).ownsRow w.heap.size 74 1 (.slice (some ⟨w.heap.size, 0, none⟩) 0 0) 0 [] from World.ownsRow_made w #[] 0 (Nat.le_refl _) (Nat.zero_le _) (by simp))
  have HI := Lib.hid infok
  clear h hb h1
  go_enter Try.func63, Try.ntmps63
  go_wp2_with (at_builtin; obtain ⟨i0, hi, hz, hsz, hby⟩ := HI.out; refine wpList_append_own (w := w.alloc (.cells #[] 74)) rfl _ _ 78 rfl w.heap.size 74 i0 (.pointer none) 1 8 rfl hi hz hsz hby rfl (by omega) _ 0 [] rfl HO.out ⟨b, off, none⟩ l.length cap l rfl ?q1 HC.out H1.out ?q2 ?q3 ?q4 ?_)
  case q1 => omega
  case q2 => rw [Nat.zero_add]; unfold maxLen; omega
  case q3 => omega
  case q4 => simp
  intro v' w1 hown hgrow hnil
  have hs : Same (fun _ => False) w w1 := ((Same.refl (fun _ => False) w).alloc (.cells #[] 74)).grown hgrow (by intro k hk; simp [Value.ownBlock] at hk; omega)
  have hv : ∃ g c, v' = .slice (some ⟨g, 0, none⟩) l.length c := by
    rcases hown.2 with ⟨rfl, h2⟩ | ⟨g, c, _, rfl, _⟩
    · omega
    · exact ⟨g, c, rfl⟩
  obtain ⟨g, c, rfl⟩ := hv
  have HW := Lib.hid hown; have HS := Lib.hid hs
  clear hown hgrow hnil hs hi hz hsz hby i0
  go_wp2_with fail
  go_ret
  exact ⟨_, _, rfl, HW.out, HS.out⟩

end Go.Proofs.Ytelgbigpfiohfaa
